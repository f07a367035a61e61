/-
  The walks of what the Print statements begin with. Written by a program of ours.
-/
import Derived.Test.YtkclecfbjfdfkaaDoorQ5
import Derived.Test.YtkclecfbjfdfkaaDoorP6
set_option linter.unusedVariables false
set_option linter.unusedSimpArgs false
namespace Go.Proofs.YtkclecfbjfdfkaaDoor
open Go.RowKit
theorem bo4 : boolB Tryd.prog 4 = true := by kernel_rfl
theorem en5 : entB Tryd.prog 5 = true := by kernel_rfl
theorem en6 : entB Tryd.prog 6 = true := by kernel_rfl
theorem en7 : entB Tryd.prog 7 = true := by kernel_rfl
theorem en8 : entB Tryd.prog 8 = true := by kernel_rfl
theorem en9 : entB Tryd.prog 9 = true := by kernel_rfl
theorem sd33 : sizedB Tryd.prog 33 = true := by kernel_rfl
theorem sd35 : sizedB Tryd.prog 35 = true := by kernel_rfl
theorem ze35 : zeroB Tryd.prog 35 = some (.agg #[(.slice none 0 0), (.slice none 0 0), .int .i64 0, .int .i64 0, .string (⟨#[]⟩ : ByteArray), .string (⟨#[]⟩ : ByteArray), .int .i64 0, (.slice none 0 0), (.slice none 0 0), .int .i64 0, .string (⟨#[]⟩ : ByteArray), .int .i64 0, (.slice none 0 0), (.slice none 0 0), .int .i64 0, (.slice none 0 0), .int .i64 0, .int .i64 0, .string (⟨#[]⟩ : ByteArray), .int .i64 0, (.slice none 0 0), (.slice none 0 0), .int .i64 0]) := by kernel_rfl
theorem variable_any (s : ByteArray) (w : World)  :
    Calls Tryd.prog 9 ([.string s] : List Value).toArray w fun e w' => e = .returned (.agg (ownTm 1 0 s (⟨#[]⟩ : ByteArray) 0 (.slice none 0 0) []).cs) ∧ Below w.heap.size w w' := by
  have hB := Below.refl w.heap.size w
  refine At.enter (N := 5) Tryd.func9 rfl rfl (by simp) [(0, .string s)] (by simp) ?_
  refine At.seq ?_
  refine At.region ?_
  refine At.alloc ze33 rfl (fun b1 w1 F1 => ?_)
  have gb1 := F1.ge hB
  have hb1 : w1.heap[b1]? = some (.cells #[.int .i64 0, .int .i64 0, .string (⟨#[]⟩ : ByteArray), .string (⟨#[]⟩ : ByteArray), .int .i64 0, (.slice none 0 0), (.slice none 0 0), .int .i64 0, .string (⟨#[]⟩ : ByteArray), .int .i64 0, (.slice none 0 0), (.slice none 0 0), .int .i64 0, (.slice none 0 0), .int .i64 0, .int .i64 0, .string (⟨#[]⟩ : ByteArray), .int .i64 0, (.slice none 0 0), (.slice none 0 0), .int .i64 0] 33) := F1.new
  replace hB := F1.below' hB
  refine At.ops0 ?_
  refine At.thenN ?_
  refine At.seq ?_
  refine At.region ?_
  refine At.move rfl rfl ?_
  refine At.build (C := #[.int .i64 1, .int .i64 0, .string s, .string (⟨#[]⟩ : ByteArray), .int .i64 0, (.slice none 0 0), (.slice none 0 0), .int .i64 0, .string (⟨#[]⟩ : ByteArray), .int .i64 0, (.slice none 0 0), (.slice none 0 0), .int .i64 0, (.slice none 0 0), .int .i64 0, .int .i64 0, .string (⟨#[]⟩ : ByteArray), .int .i64 0, (.slice none 0 0), (.slice none 0 0), .int .i64 0]) sd33 ze33 rfl (Bld.cons fo33_0 rfl (by first | decide | exact Nat.le_of_ble_eq_true rfl) (Bld.cons fo33_2 rfl (by first | decide | exact Nat.le_of_ble_eq_true rfl) (Bld.nil _))) rfl ?_
  refine At.storeAll rfl rfl hb1 sz33 rfl (by first | (simp [Value.oneCell', ((SlOk.nil)).one, ((SlOk.nil)).one, ((SlOk.nil)).one, ((SlOk.nil)).one, ((SlOk.nil)).one, ((SlOk.nil)).one, ((SlOk.nil)).one]; done) | (simp only [List.all_toArray, List.all_cons, List.all_nil, ((SlOk.nil)).one, ((SlOk.nil)).one, ((SlOk.nil)).one, ((SlOk.nil)).one, ((SlOk.nil)).one, ((SlOk.nil)).one, ((SlOk.nil)).one, Bool.and_true, Bool.true_and]; rfl)) (fun w2 S1 => ?_)
  replace hb1 : w2.heap[b1]? = some (.cells #[.int .i64 1, .int .i64 0, .string s, .string (⟨#[]⟩ : ByteArray), .int .i64 0, (.slice none 0 0), (.slice none 0 0), .int .i64 0, .string (⟨#[]⟩ : ByteArray), .int .i64 0, (.slice none 0 0), (.slice none 0 0), .int .i64 0, (.slice none 0 0), .int .i64 0, .int .i64 0, .string (⟨#[]⟩ : ByteArray), .int .i64 0, (.slice none 0 0), (.slice none 0 0), .int .i64 0] 33) := S1.new
  replace hB := S1.below' hB gb1
  refine At.ops0 ?_
  refine At.thenN ?_
  refine At.retc ?_
  refine At.doneR (ResV.cell rfl (Ld.own (C := #[.int .i64 1, .int .i64 0, .string s, .string (⟨#[]⟩ : ByteArray), .int .i64 0, (.slice none 0 0), (.slice none 0 0), .int .i64 0, .string (⟨#[]⟩ : ByteArray), .int .i64 0, (.slice none 0 0), (.slice none 0 0), .int .i64 0, (.slice none 0 0), .int .i64 0, .int .i64 0, .string (⟨#[]⟩ : ByteArray), .int .i64 0, (.slice none 0 0), (.slice none 0 0), .int .i64 0]) ag33 sz33 hb1) ResV.nil) ?_
  exact ⟨rfl, hB⟩
theorem shown_any (m : Int) (w : World) (hm : w.cell? ⟨0, 0, none⟩ = some (.int .i64 m)) (htab : Tab w) :
    Calls Tryd.prog 5 ([] : List Value).toArray w fun e w' => e = .returned (.bool true) ∧ Below w.heap.size w w' := by
  have hB := Below.refl w.heap.size w
  refine At.enter (N := 72) Tryd.func5 rfl rfl (by simp) [] (by simp) ?_
  refine At.seq ?_
  refine At.region ?_
  refine At.assign rfl rfl ?_
  refine At.ops0 ?_
  refine At.thenN ?_
  refine At.seq ?_
  refine At.region ?_
  refine At.call en9 rfl rfl (variable_any (⟨#[102]⟩ : ByteArray) _) (fun e w1 hR => ?_)
  obtain ⟨rfl, hbl1⟩ := hR
  refine ⟨_, rfl, ?_⟩
  replace hB := Below.andThen hB hbl1
  refine At.call en9 rfl rfl (variable_any (⟨#[120]⟩ : ByteArray) _) (fun e w2 hR => ?_)
  obtain ⟨rfl, hbl2⟩ := hR
  refine ⟨_, rfl, ?_⟩
  replace hB := Below.andThen hB hbl2
  refine At.buildSlice (xs := [.tmp 10, .tmp 11]) rfl rfl el24 sz33 ze33 (by intro v hv; simp only [List.mem_cons, List.not_mem_nil, or_false] at hv; rcases hv with rfl | rfl <;> first | rfl | simp [Value.cells, ((ownTm_leaf _ 1 0 (⟨#[102]⟩ : ByteArray) (⟨#[]⟩ : ByteArray) 0)).size, ((ownTm_leaf _ 1 0 (⟨#[120]⟩ : ByteArray) (⟨#[]⟩ : ByteArray) 0)).size]) rfl (by decide) rfl (fun b1 w3 F1 => ?_)
  have gb1 := F1.ge hB
  have hb1 : w3.heap[b1]? = some (.cells (([(ownTm 1 0 (⟨#[102]⟩ : ByteArray) (⟨#[]⟩ : ByteArray) 0 (.slice none 0 0) []), (ownTm 1 0 (⟨#[120]⟩ : ByteArray) (⟨#[]⟩ : ByteArray) 0 (.slice none 0 0) [])].map Tm.cs).flatMap (·.toList)).toArray 33) := F1.new
  replace hB := F1.below' hB
  refine At.build (C := #[.int .i64 6, .int .i64 0, .string (⟨#[]⟩ : ByteArray), .string (⟨#[]⟩ : ByteArray), .int .i64 0, (.slice (some ⟨b1, 0, none⟩) 2 2), (.slice none 0 0), .int .i64 0, .string (⟨#[]⟩ : ByteArray), .int .i64 0, (.slice none 0 0), (.slice none 0 0), .int .i64 0, (.slice none 0 0), .int .i64 0, .int .i64 0, .string (⟨#[]⟩ : ByteArray), .int .i64 0, (.slice none 0 0), (.slice none 0 0), .int .i64 0]) sd33 ze33 rfl (Bld.cons fo33_0 rfl (by first | decide | exact Nat.le_of_ble_eq_true rfl) (Bld.cons fo33_5 rfl (by first | decide | exact Nat.le_of_ble_eq_true rfl) (Bld.nil _))) rfl ?_
  refine At.alloc ze33 rfl (fun b2 w4 F2 => ?_)
  have n_b1_b2 : b1 ≠ b2 := Nat.ne_of_lt (F2.lt hb1)
  have gb2 := F2.ge hB
  replace hb1 := F2.old hb1
  have hb2 : w4.heap[b2]? = some (.cells #[.int .i64 0, .int .i64 0, .string (⟨#[]⟩ : ByteArray), .string (⟨#[]⟩ : ByteArray), .int .i64 0, (.slice none 0 0), (.slice none 0 0), .int .i64 0, .string (⟨#[]⟩ : ByteArray), .int .i64 0, (.slice none 0 0), (.slice none 0 0), .int .i64 0, (.slice none 0 0), .int .i64 0, .int .i64 0, .string (⟨#[]⟩ : ByteArray), .int .i64 0, (.slice none 0 0), (.slice none 0 0), .int .i64 0] 33) := F2.new
  replace hB := F2.below' hB
  refine At.storeAll rfl rfl hb2 sz33 rfl (by first | (simp [Value.oneCell', ((SlOk.nil)).one, ((SlOk.nil)).one, ((SlOk.nil)).one, ((SlOk.nil)).one, ((SlOk.nil)).one, ((SlOk.nil)).one]; done) | (simp only [List.all_toArray, List.all_cons, List.all_nil, ((SlOk.nil)).one, ((SlOk.nil)).one, ((SlOk.nil)).one, ((SlOk.nil)).one, ((SlOk.nil)).one, ((SlOk.nil)).one, Bool.and_true, Bool.true_and]; rfl)) (fun w5 S1 => ?_)
  replace hb1 := S1.other hb1 n_b1_b2
  replace hb2 : w5.heap[b2]? = some (.cells #[.int .i64 6, .int .i64 0, .string (⟨#[]⟩ : ByteArray), .string (⟨#[]⟩ : ByteArray), .int .i64 0, (.slice (some ⟨b1, 0, none⟩) 2 2), (.slice none 0 0), .int .i64 0, .string (⟨#[]⟩ : ByteArray), .int .i64 0, (.slice none 0 0), (.slice none 0 0), .int .i64 0, (.slice none 0 0), .int .i64 0, .int .i64 0, .string (⟨#[]⟩ : ByteArray), .int .i64 0, (.slice none 0 0), (.slice none 0 0), .int .i64 0] 33) := S1.new
  replace hB := S1.below' hB gb2
  refine At.ops0 ?_
  refine At.thenN ?_
  refine At.seq ?_
  refine At.region ?_
  refine At.load rfl (Ld.own (C := #[.int .i64 6, .int .i64 0, .string (⟨#[]⟩ : ByteArray), .string (⟨#[]⟩ : ByteArray), .int .i64 0, (.slice (some ⟨b1, 0, none⟩) 2 2), (.slice none 0 0), .int .i64 0, .string (⟨#[]⟩ : ByteArray), .int .i64 0, (.slice none 0 0), (.slice none 0 0), .int .i64 0, (.slice none 0 0), .int .i64 0, .int .i64 0, .string (⟨#[]⟩ : ByteArray), .int .i64 0, (.slice none 0 0), (.slice none 0 0), .int .i64 0]) ag33 sz33 hb2) rfl ?_
  refine At.build (C := #[.int .i64 2, .int .i64 0, .string (⟨#[]⟩ : ByteArray), .string (⟨#[]⟩ : ByteArray), .int .i64 1, (.slice none 0 0), (.slice none 0 0), .int .i64 0, .string (⟨#[]⟩ : ByteArray), .int .i64 0, (.slice none 0 0), (.slice none 0 0), .int .i64 0, (.slice none 0 0), .int .i64 0, .int .i64 0, .string (⟨#[]⟩ : ByteArray), .int .i64 0, (.slice none 0 0), (.slice none 0 0), .int .i64 0]) sd33 ze33 rfl (Bld.cons fo33_0 rfl (by first | decide | exact Nat.le_of_ble_eq_true rfl) (Bld.cons fo33_4 rfl (by first | decide | exact Nat.le_of_ble_eq_true rfl) (Bld.nil _))) rfl ?_
  refine At.buildSlice (xs := [.tmp 15, .tmp 16]) rfl rfl el24 sz33 ze33 (by intro v hv; simp only [List.mem_cons, List.not_mem_nil, or_false] at hv; rcases hv with rfl | rfl <;> first | rfl | simp [Value.cells, ((ownTm_ok (m := 2) 6 0 (⟨#[]⟩ : ByteArray) (⟨#[]⟩ : ByteArray) 0 hb1 (mem2 (((ownTm_leaf _ 1 0 (⟨#[102]⟩ : ByteArray) (⟨#[]⟩ : ByteArray) 0)).keep (Below.refl _ _)) (((ownTm_leaf _ 1 0 (⟨#[120]⟩ : ByteArray) (⟨#[]⟩ : ByteArray) 0)).keep (Below.refl _ _))) rfl (by decide))).size, ((ownTm_leaf _ 2 0 (⟨#[]⟩ : ByteArray) (⟨#[]⟩ : ByteArray) 1)).size]) rfl (by decide) rfl (fun b3 w6 F3 => ?_)
  have n_b1_b3 : b1 ≠ b3 := Nat.ne_of_lt (F3.lt hb1)
  have n_b2_b3 : b2 ≠ b3 := Nat.ne_of_lt (F3.lt hb2)
  have gb3 := F3.ge hB
  replace hb1 := F3.old hb1
  replace hb2 := F3.old hb2
  have hb3 : w6.heap[b3]? = some (.cells (([(ownTm 6 0 (⟨#[]⟩ : ByteArray) (⟨#[]⟩ : ByteArray) 0 (.slice (some ⟨b1, 0, none⟩) 2 2) [(ownTm 1 0 (⟨#[102]⟩ : ByteArray) (⟨#[]⟩ : ByteArray) 0 (.slice none 0 0) []), (ownTm 1 0 (⟨#[120]⟩ : ByteArray) (⟨#[]⟩ : ByteArray) 0 (.slice none 0 0) [])]), (ownTm 2 0 (⟨#[]⟩ : ByteArray) (⟨#[]⟩ : ByteArray) 1 (.slice none 0 0) [])].map Tm.cs).flatMap (·.toList)).toArray 33) := F3.new
  replace hB := F3.below' hB
  refine At.build (C := #[.int .i64 10, .int .i64 0, .string (⟨#[43]⟩ : ByteArray), .string (⟨#[]⟩ : ByteArray), .int .i64 0, (.slice (some ⟨b3, 0, none⟩) 2 2), (.slice none 0 0), .int .i64 0, .string (⟨#[]⟩ : ByteArray), .int .i64 0, (.slice none 0 0), (.slice none 0 0), .int .i64 0, (.slice none 0 0), .int .i64 0, .int .i64 0, .string (⟨#[]⟩ : ByteArray), .int .i64 0, (.slice none 0 0), (.slice none 0 0), .int .i64 0]) sd33 ze33 rfl (Bld.cons fo33_0 rfl (by first | decide | exact Nat.le_of_ble_eq_true rfl) (Bld.cons fo33_2 rfl (by first | decide | exact Nat.le_of_ble_eq_true rfl) (Bld.cons fo33_5 rfl (by first | decide | exact Nat.le_of_ble_eq_true rfl) (Bld.nil _)))) rfl ?_
  refine At.call en8 rfl rfl (term_any (ownTm 10 0 (⟨#[43]⟩ : ByteArray) (⟨#[]⟩ : ByteArray) 0 (.slice (some ⟨b3, 0, none⟩) 2 2) [(ownTm 6 0 (⟨#[]⟩ : ByteArray) (⟨#[]⟩ : ByteArray) 0 (.slice (some ⟨b1, 0, none⟩) 2 2) [(ownTm 1 0 (⟨#[102]⟩ : ByteArray) (⟨#[]⟩ : ByteArray) 0 (.slice none 0 0) []), (ownTm 1 0 (⟨#[120]⟩ : ByteArray) (⟨#[]⟩ : ByteArray) 0 (.slice none 0 0) [])]), (ownTm 2 0 (⟨#[]⟩ : ByteArray) (⟨#[]⟩ : ByteArray) 1 (.slice none 0 0) [])]) m _ (((ownTm_ok (m := 2) 10 0 (⟨#[43]⟩ : ByteArray) (⟨#[]⟩ : ByteArray) 0 hb3 (mem2 (((ownTm_ok (m := 2) 6 0 (⟨#[]⟩ : ByteArray) (⟨#[]⟩ : ByteArray) 0 hb1 (mem2 (((ownTm_leaf _ 1 0 (⟨#[102]⟩ : ByteArray) (⟨#[]⟩ : ByteArray) 0)).keep (Below.refl _ _)) (((ownTm_leaf _ 1 0 (⟨#[120]⟩ : ByteArray) (⟨#[]⟩ : ByteArray) 0)).keep (Below.refl _ _))) rfl (by decide))).keep (Below.refl _ _)) (((ownTm_leaf _ 2 0 (⟨#[]⟩ : ByteArray) (⟨#[]⟩ : ByteArray) 1)).keep (Below.refl _ _))) rfl (by decide))).keep (Below.refl _ _)) (by refine sz_own _ _ _ _ _ _ _ (by decide) (by decide) (by decide) ?_; simp only [szL, szA, szT, ownTm] <;> decide) (cell_keep hm hB) (tab_keep htab hB) (fun _ => (sh_few _ _).1)) (fun e w7 hR => ?_)
  obtain ⟨rfl, hbl3⟩ := hR
  refine ⟨_, rfl, ?_⟩
  replace hb1 := Below.old hbl3 hb1
  replace hb2 := Below.old hbl3 hb2
  replace hb3 := Below.old hbl3 hb3
  replace hB := Below.andThen hB hbl3
  refine At.move rfl rfl ?_
  refine At.extract rfl rfl rfl ?_
  refine At.extract rfl rfl rfl ?_
  refine At.assign rfl rfl ?_
  refine At.assign rfl rfl ?_
  refine At.ops0 ?_
  refine At.thenN ?_
  refine At.seq ?_
  refine At.drawG (n := 10) mixed (by kernel_rfl) rfl (PanicOk.then PanicOk.body) ?_
  have hB := Below.drewB hB
  have hb1 : _ := (show w7.drew.heap[b1]? = _ from hb1)
  have hb2 : _ := (show w7.drew.heap[b2]? = _ from hb2)
  have hb3 : _ := (show w7.drew.heap[b3]? = _ from hb3)
  refine At.wpcS (i := 0) (d := 23) (.agg #[.int .i64 6, .int .i64 0, .string (⟨#[]⟩ : ByteArray), .string (⟨#[]⟩ : ByteArray), .int .i64 0, (.slice (some ⟨b1, 0, none⟩) 2 2), (.slice none 0 0), .int .i64 0, .string (⟨#[]⟩ : ByteArray), .int .i64 0, (.slice none 0 0), (.slice none 0 0), .int .i64 0, (.slice none 0 0), .int .i64 0, .int .i64 0, .string (⟨#[]⟩ : ByteArray), .int .i64 0, (.slice none 0 0), (.slice none 0 0), .int .i64 0]) (by kernel_rfl) rfl rfl rfl (fun Lx => ?_) ?_
  · skip
    refine At.load rfl (Ld.own (C := #[.int .i64 6, .int .i64 0, .string (⟨#[]⟩ : ByteArray), .string (⟨#[]⟩ : ByteArray), .int .i64 0, (.slice (some ⟨b1, 0, none⟩) 2 2), (.slice none 0 0), .int .i64 0, .string (⟨#[]⟩ : ByteArray), .int .i64 0, (.slice none 0 0), (.slice none 0 0), .int .i64 0, (.slice none 0 0), .int .i64 0, .int .i64 0, .string (⟨#[]⟩ : ByteArray), .int .i64 0, (.slice none 0 0), (.slice none 0 0), .int .i64 0]) ag33 sz33 hb2) rfl ?_
    refine At.ops0 ?_
    exact fun a ha => ⟨ha, rfl⟩
  refine At.wpcE [1] (by kernel_rfl) (by kernel_rfl) (.cons [0] rfl (by kernel_rfl) ?_ .nil)
  refine At.call en9 rfl rfl (variable_any (⟨#[121]⟩ : ByteArray) _) (fun e w8 hR => ?_)
  obtain ⟨rfl, hbl4⟩ := hR
  refine ⟨_, rfl, ?_⟩
  replace hb1 := Below.old hbl4 hb1
  replace hb2 := Below.old hbl4 hb2
  replace hb3 := Below.old hbl4 hb3
  replace hB := Below.andThen hB hbl4
  refine At.ops0 ?_
  refine At.wpcN (.cons rfl rfl rfl rfl (fun Lx => ?_) .nil) ?_
  · skip
    refine At.load rfl (Ld.own (C := #[.int .i64 6, .int .i64 0, .string (⟨#[]⟩ : ByteArray), .string (⟨#[]⟩ : ByteArray), .int .i64 0, (.slice (some ⟨b1, 0, none⟩) 2 2), (.slice none 0 0), .int .i64 0, .string (⟨#[]⟩ : ByteArray), .int .i64 0, (.slice none 0 0), (.slice none 0 0), .int .i64 0, (.slice none 0 0), .int .i64 0, .int .i64 0, .string (⟨#[]⟩ : ByteArray), .int .i64 0, (.slice none 0 0), (.slice none 0 0), .int .i64 0]) ag33 sz33 hb2) rfl ?_
    refine At.ops0 ?_
    exact fun a ha => ⟨ha, rfl⟩
  refine At.wpcE [2] (by kernel_rfl) (by kernel_rfl) (.cons [] rfl (by kernel_rfl) ?_ .nil)
  refine At.buildSlice (xs := [.tmp 23, .tmp 24]) rfl rfl el24 sz33 ze33 (by intro v hv; simp only [List.mem_cons, List.not_mem_nil, or_false] at hv; rcases hv with rfl | rfl <;> first | rfl | simp [Value.cells, ((ownTm_ok (m := 2) 6 0 (⟨#[]⟩ : ByteArray) (⟨#[]⟩ : ByteArray) 0 hb1 (mem2 (((ownTm_leaf _ 1 0 (⟨#[102]⟩ : ByteArray) (⟨#[]⟩ : ByteArray) 0)).keep (Below.refl _ _)) (((ownTm_leaf _ 1 0 (⟨#[120]⟩ : ByteArray) (⟨#[]⟩ : ByteArray) 0)).keep (Below.refl _ _))) rfl (by decide))).size, ((ownTm_leaf _ 1 0 (⟨#[121]⟩ : ByteArray) (⟨#[]⟩ : ByteArray) 0)).size]) rfl (by decide) rfl (fun b4 w9 F4 => ?_)
  have n_b1_b4 : b1 ≠ b4 := Nat.ne_of_lt (F4.lt hb1)
  have n_b2_b4 : b2 ≠ b4 := Nat.ne_of_lt (F4.lt hb2)
  have n_b3_b4 : b3 ≠ b4 := Nat.ne_of_lt (F4.lt hb3)
  have gb4 := F4.ge hB
  replace hb1 := F4.old hb1
  replace hb2 := F4.old hb2
  replace hb3 := F4.old hb3
  have hb4 : w9.heap[b4]? = some (.cells (([(ownTm 6 0 (⟨#[]⟩ : ByteArray) (⟨#[]⟩ : ByteArray) 0 (.slice (some ⟨b1, 0, none⟩) 2 2) [(ownTm 1 0 (⟨#[102]⟩ : ByteArray) (⟨#[]⟩ : ByteArray) 0 (.slice none 0 0) []), (ownTm 1 0 (⟨#[120]⟩ : ByteArray) (⟨#[]⟩ : ByteArray) 0 (.slice none 0 0) [])]), (ownTm 1 0 (⟨#[121]⟩ : ByteArray) (⟨#[]⟩ : ByteArray) 0 (.slice none 0 0) [])].map Tm.cs).flatMap (·.toList)).toArray 33) := F4.new
  replace hB := F4.below' hB
  refine At.ops0 ?_
  refine At.wpcN .nil ?_
  refine At.wpcS (i := 3) (d := 26) (.agg #[.int .i64 6, .int .i64 0, .string (⟨#[]⟩ : ByteArray), .string (⟨#[]⟩ : ByteArray), .int .i64 0, (.slice (some ⟨b4, 0, none⟩) 2 2), (.slice none 0 0), .int .i64 0, .string (⟨#[]⟩ : ByteArray), .int .i64 0, (.slice none 0 0), (.slice none 0 0), .int .i64 0, (.slice none 0 0), .int .i64 0, .int .i64 0, .string (⟨#[]⟩ : ByteArray), .int .i64 0, (.slice none 0 0), (.slice none 0 0), .int .i64 0]) (by kernel_rfl) rfl rfl rfl (fun Lx => ?_) ?_
  · skip
    refine At.build (C := #[.int .i64 6, .int .i64 0, .string (⟨#[]⟩ : ByteArray), .string (⟨#[]⟩ : ByteArray), .int .i64 0, (.slice (some ⟨b4, 0, none⟩) 2 2), (.slice none 0 0), .int .i64 0, .string (⟨#[]⟩ : ByteArray), .int .i64 0, (.slice none 0 0), (.slice none 0 0), .int .i64 0, (.slice none 0 0), .int .i64 0, .int .i64 0, .string (⟨#[]⟩ : ByteArray), .int .i64 0, (.slice none 0 0), (.slice none 0 0), .int .i64 0]) sd33 ze33 rfl (Bld.cons fo33_0 rfl (by first | decide | exact Nat.le_of_ble_eq_true rfl) (Bld.cons fo33_5 rfl (by first | decide | exact Nat.le_of_ble_eq_true rfl) (Bld.nil _))) rfl ?_
    refine At.ops0 ?_
    exact fun a ha => ⟨ha, rfl⟩
  refine At.wpcE [4] (by kernel_rfl) (by kernel_rfl) (.cons [] rfl (by kernel_rfl) ?_ .nil)
  refine At.call en8 rfl rfl (term_any (ownTm 6 0 (⟨#[]⟩ : ByteArray) (⟨#[]⟩ : ByteArray) 0 (.slice (some ⟨b4, 0, none⟩) 2 2) [(ownTm 6 0 (⟨#[]⟩ : ByteArray) (⟨#[]⟩ : ByteArray) 0 (.slice (some ⟨b1, 0, none⟩) 2 2) [(ownTm 1 0 (⟨#[102]⟩ : ByteArray) (⟨#[]⟩ : ByteArray) 0 (.slice none 0 0) []), (ownTm 1 0 (⟨#[120]⟩ : ByteArray) (⟨#[]⟩ : ByteArray) 0 (.slice none 0 0) [])]), (ownTm 1 0 (⟨#[121]⟩ : ByteArray) (⟨#[]⟩ : ByteArray) 0 (.slice none 0 0) [])]) m _ (((ownTm_ok (m := 2) 6 0 (⟨#[]⟩ : ByteArray) (⟨#[]⟩ : ByteArray) 0 hb4 (mem2 (((ownTm_ok (m := 2) 6 0 (⟨#[]⟩ : ByteArray) (⟨#[]⟩ : ByteArray) 0 hb1 (mem2 (((ownTm_leaf _ 1 0 (⟨#[102]⟩ : ByteArray) (⟨#[]⟩ : ByteArray) 0)).keep (Below.refl _ _)) (((ownTm_leaf _ 1 0 (⟨#[120]⟩ : ByteArray) (⟨#[]⟩ : ByteArray) 0)).keep (Below.refl _ _))) rfl (by decide))).keep (Below.refl _ _)) (((ownTm_leaf _ 1 0 (⟨#[121]⟩ : ByteArray) (⟨#[]⟩ : ByteArray) 0)).keep (Below.refl _ _))) rfl (by decide))).keep (Below.refl _ _)) (by refine sz_own _ _ _ _ _ _ _ (by decide) (by decide) (by decide) ?_; simp only [szL, szA, szT, ownTm] <;> decide) (cell_keep hm hB) (tab_keep htab hB) (fun _ => (sh_few _ _).2.1)) (fun e w10 hR => ?_)
  obtain ⟨rfl, hbl5⟩ := hR
  refine ⟨_, rfl, ?_⟩
  replace hb1 := Below.old hbl5 hb1
  replace hb2 := Below.old hbl5 hb2
  replace hb3 := Below.old hbl5 hb3
  replace hb4 := Below.old hbl5 hb4
  replace hB := Below.andThen hB hbl5
  refine At.ops0 ?_
  refine At.wpcN .nil ?_
  refine At.wpcS (i := 5) (d := 22) (.tuple #[.string (bs (termL (ownTm 6 0 (⟨#[]⟩ : ByteArray) (⟨#[]⟩ : ByteArray) 0 (.slice (some ⟨b4, 0, none⟩) 2 2) [(ownTm 6 0 (⟨#[]⟩ : ByteArray) (⟨#[]⟩ : ByteArray) 0 (.slice (some ⟨b1, 0, none⟩) 2 2) [(ownTm 1 0 (⟨#[102]⟩ : ByteArray) (⟨#[]⟩ : ByteArray) 0 (.slice none 0 0) []), (ownTm 1 0 (⟨#[120]⟩ : ByteArray) (⟨#[]⟩ : ByteArray) 0 (.slice none 0 0) [])]), (ownTm 1 0 (⟨#[121]⟩ : ByteArray) (⟨#[]⟩ : ByteArray) 0 (.slice none 0 0) [])]))), .int .i64 (if writtenB (ownTm 6 0 (⟨#[]⟩ : ByteArray) (⟨#[]⟩ : ByteArray) 0 (.slice (some ⟨b4, 0, none⟩) 2 2) [(ownTm 6 0 (⟨#[]⟩ : ByteArray) (⟨#[]⟩ : ByteArray) 0 (.slice (some ⟨b1, 0, none⟩) 2 2) [(ownTm 1 0 (⟨#[102]⟩ : ByteArray) (⟨#[]⟩ : ByteArray) 0 (.slice none 0 0) []), (ownTm 1 0 (⟨#[120]⟩ : ByteArray) (⟨#[]⟩ : ByteArray) 0 (.slice none 0 0) [])]), (ownTm 1 0 (⟨#[121]⟩ : ByteArray) (⟨#[]⟩ : ByteArray) 0 (.slice none 0 0) [])]) then (0 : Int) else 1)]) (by kernel_rfl) rfl rfl rfl (fun Lx => ?_) ?_
  · skip
    refine At.move rfl rfl ?_
    refine At.ops0 ?_
    exact fun a ha => ⟨ha, rfl⟩
  refine At.wpcS (i := 6) (d := 28) (.string (bs (termL (ownTm 6 0 (⟨#[]⟩ : ByteArray) (⟨#[]⟩ : ByteArray) 0 (.slice (some ⟨b4, 0, none⟩) 2 2) [(ownTm 6 0 (⟨#[]⟩ : ByteArray) (⟨#[]⟩ : ByteArray) 0 (.slice (some ⟨b1, 0, none⟩) 2 2) [(ownTm 1 0 (⟨#[102]⟩ : ByteArray) (⟨#[]⟩ : ByteArray) 0 (.slice none 0 0) []), (ownTm 1 0 (⟨#[120]⟩ : ByteArray) (⟨#[]⟩ : ByteArray) 0 (.slice none 0 0) [])]), (ownTm 1 0 (⟨#[121]⟩ : ByteArray) (⟨#[]⟩ : ByteArray) 0 (.slice none 0 0) [])])))) (by kernel_rfl) rfl rfl rfl (fun Lx => ?_) ?_
  · skip
    refine At.extract rfl rfl rfl ?_
    refine At.ops0 ?_
    exact fun a ha => ⟨ha, rfl⟩
  refine At.wpcS (i := 7) (d := 29) (.int .i64 (if writtenB (ownTm 6 0 (⟨#[]⟩ : ByteArray) (⟨#[]⟩ : ByteArray) 0 (.slice (some ⟨b4, 0, none⟩) 2 2) [(ownTm 6 0 (⟨#[]⟩ : ByteArray) (⟨#[]⟩ : ByteArray) 0 (.slice (some ⟨b1, 0, none⟩) 2 2) [(ownTm 1 0 (⟨#[102]⟩ : ByteArray) (⟨#[]⟩ : ByteArray) 0 (.slice none 0 0) []), (ownTm 1 0 (⟨#[120]⟩ : ByteArray) (⟨#[]⟩ : ByteArray) 0 (.slice none 0 0) [])]), (ownTm 1 0 (⟨#[121]⟩ : ByteArray) (⟨#[]⟩ : ByteArray) 0 (.slice none 0 0) [])]) then (0 : Int) else 1)) (by kernel_rfl) rfl rfl rfl (fun Lx => ?_) ?_
  · skip
    refine At.extract rfl rfl rfl ?_
    refine At.ops0 ?_
    exact fun a ha => ⟨ha, rfl⟩
  refine At.wpcE [8] (by kernel_rfl) (by kernel_rfl) (.cons [7] rfl (by kernel_rfl) ?_ .nil)
  refine At.assign rfl rfl ?_
  refine At.ops0 ?_
  refine At.wpcN (.cons rfl rfl rfl rfl (fun Lx => ?_) .nil) ?_
  · skip
    refine At.extract rfl rfl rfl ?_
    refine At.ops0 ?_
    exact fun a ha => ⟨ha, rfl⟩
  refine At.wpcE [9] (by kernel_rfl) (by kernel_rfl) (.cons [] rfl (by kernel_rfl) ?_ .nil)
  refine At.assign rfl rfl ?_
  refine At.ops0 ?_
  refine At.wpcN .nil ?_
  refine At.wpcZ ?_
  refine At.thenN ?_
  refine At.seq ?_
  refine At.region ?_
  refine At.build (C := #[(.slice none 0 0), (.slice none 0 0), .int .i64 0, .int .i64 0, .string (⟨#[]⟩ : ByteArray), .string (⟨#[]⟩ : ByteArray), .int .i64 0, (.slice none 0 0), (.slice none 0 0), .int .i64 0, .string (⟨#[]⟩ : ByteArray), .int .i64 0, (.slice none 0 0), (.slice none 0 0), .int .i64 0, (.slice none 0 0), .int .i64 0, .int .i64 0, .string (⟨#[]⟩ : ByteArray), .int .i64 0, (.slice none 0 0), (.slice none 0 0), .int .i64 0]) sd35 ze35 rfl (Bld.nil _) rfl ?_
  refine At.set (d := 31) (u := .agg (mkPr (.slice none 0 0) (.slice none 0 0) [] [] (ownTm 0 0 (⟨#[]⟩ : ByteArray) (⟨#[]⟩ : ByteArray) 0 (.slice none 0 0) [])).cs) rfl (congrArg Value.agg rfl) ?_
  refine At.call en7 rfl rfl (print_any (mkPr (.slice none 0 0) (.slice none 0 0) [] [] (ownTm 0 0 (⟨#[]⟩ : ByteArray) (⟨#[]⟩ : ByteArray) 0 (.slice none 0 0) [])) m _ (((mkPr_ok (RowsAt.nil _ 2) (RowsAt.nil _ 2) (fun _ h => by cases h) (fun _ h => by cases h) (((ownTm_leaf _ 0 0 (⟨#[]⟩ : ByteArray) (⟨#[]⟩ : ByteArray) 0)).keep (Below.refl _ _)))).keep (Below.refl _ _)) (⟨(fun x h => by cases h), (fun x h => by cases h), (by refine sz_own _ _ _ _ _ _ _ (by decide) (by decide) (by decide) ?_; simp only [szL, szA, szT, ownTm] <;> decide)⟩) (cell_keep hm hB) (tab_keep htab hB) (fun h => by rw [right_bodyPr, zero_written] at h; cases h)) (fun e w11 hR => ?_)
  obtain ⟨rfl, hbl6⟩ := hR
  refine ⟨_, rfl, ?_⟩
  replace hb1 := Below.old hbl6 hb1
  replace hb2 := Below.old hbl6 hb2
  replace hb3 := Below.old hbl6 hb3
  replace hb4 := Below.old hbl6 hb4
  replace hB := Below.andThen hB hbl6
  refine At.move rfl rfl ?_
  refine At.extract rfl rfl rfl ?_
  refine At.extract rfl rfl rfl ?_
  refine At.assign rfl rfl ?_
  refine At.assign rfl rfl ?_
  refine At.ops0 ?_
  refine At.thenN ?_
  refine At.seq ?_
  refine At.region ?_
  refine At.load rfl (Ld.own (C := #[.int .i64 6, .int .i64 0, .string (⟨#[]⟩ : ByteArray), .string (⟨#[]⟩ : ByteArray), .int .i64 0, (.slice (some ⟨b1, 0, none⟩) 2 2), (.slice none 0 0), .int .i64 0, .string (⟨#[]⟩ : ByteArray), .int .i64 0, (.slice none 0 0), (.slice none 0 0), .int .i64 0, (.slice none 0 0), .int .i64 0, .int .i64 0, .string (⟨#[]⟩ : ByteArray), .int .i64 0, (.slice none 0 0), (.slice none 0 0), .int .i64 0]) ag33 sz33 hb2) rfl ?_
  refine At.build (C := splice #[(.slice none 0 0), (.slice none 0 0), .int .i64 0, .int .i64 0, .string (⟨#[]⟩ : ByteArray), .string (⟨#[]⟩ : ByteArray), .int .i64 0, (.slice none 0 0), (.slice none 0 0), .int .i64 0, .string (⟨#[]⟩ : ByteArray), .int .i64 0, (.slice none 0 0), (.slice none 0 0), .int .i64 0, (.slice none 0 0), .int .i64 0, .int .i64 0, .string (⟨#[]⟩ : ByteArray), .int .i64 0, (.slice none 0 0), (.slice none 0 0), .int .i64 0] 2 (ownTm 6 0 (⟨#[]⟩ : ByteArray) (⟨#[]⟩ : ByteArray) 0 (.slice (some ⟨b1, 0, none⟩) 2 2) [(ownTm 1 0 (⟨#[102]⟩ : ByteArray) (⟨#[]⟩ : ByteArray) 0 (.slice none 0 0) []), (ownTm 1 0 (⟨#[120]⟩ : ByteArray) (⟨#[]⟩ : ByteArray) 0 (.slice none 0 0) [])]).cs) sd35 ze35 rfl (Bld.cons fo35_2 ((ownTm_ok (m := 2) 6 0 (⟨#[]⟩ : ByteArray) (⟨#[]⟩ : ByteArray) 0 hb1 (mem2 (((ownTm_leaf _ 1 0 (⟨#[102]⟩ : ByteArray) (⟨#[]⟩ : ByteArray) 0)).keep (Below.refl _ _)) (((ownTm_leaf _ 1 0 (⟨#[120]⟩ : ByteArray) (⟨#[]⟩ : ByteArray) 0)).keep (Below.refl _ _))) rfl (by decide))).size (by decide) (Bld.nil _)) rfl ?_
  refine At.set (d := 37) (u := .agg (mkPr (.slice none 0 0) (.slice none 0 0) [] [] (ownTm 6 0 (⟨#[]⟩ : ByteArray) (⟨#[]⟩ : ByteArray) 0 (.slice (some ⟨b1, 0, none⟩) 2 2) [(ownTm 1 0 (⟨#[102]⟩ : ByteArray) (⟨#[]⟩ : ByteArray) 0 (.slice none 0 0) []), (ownTm 1 0 (⟨#[120]⟩ : ByteArray) (⟨#[]⟩ : ByteArray) 0 (.slice none 0 0) [])])).cs) rfl (congrArg Value.agg (splice_pr (by simp) ((ownTm_ok (m := 2) 6 0 (⟨#[]⟩ : ByteArray) (⟨#[]⟩ : ByteArray) 0 hb1 (mem2 (((ownTm_leaf _ 1 0 (⟨#[102]⟩ : ByteArray) (⟨#[]⟩ : ByteArray) 0)).keep (Below.refl _ _)) (((ownTm_leaf _ 1 0 (⟨#[120]⟩ : ByteArray) (⟨#[]⟩ : ByteArray) 0)).keep (Below.refl _ _))) rfl (by decide))).size rfl rfl)) ?_
  refine At.call en7 rfl rfl (print_any (mkPr (.slice none 0 0) (.slice none 0 0) [] [] (ownTm 6 0 (⟨#[]⟩ : ByteArray) (⟨#[]⟩ : ByteArray) 0 (.slice (some ⟨b1, 0, none⟩) 2 2) [(ownTm 1 0 (⟨#[102]⟩ : ByteArray) (⟨#[]⟩ : ByteArray) 0 (.slice none 0 0) []), (ownTm 1 0 (⟨#[120]⟩ : ByteArray) (⟨#[]⟩ : ByteArray) 0 (.slice none 0 0) [])])) m _ (((mkPr_ok (RowsAt.nil _ 2) (RowsAt.nil _ 2) (fun _ h => by cases h) (fun _ h => by cases h) (((ownTm_ok (m := 2) 6 0 (⟨#[]⟩ : ByteArray) (⟨#[]⟩ : ByteArray) 0 hb1 (mem2 (((ownTm_leaf _ 1 0 (⟨#[102]⟩ : ByteArray) (⟨#[]⟩ : ByteArray) 0)).keep (Below.refl _ _)) (((ownTm_leaf _ 1 0 (⟨#[120]⟩ : ByteArray) (⟨#[]⟩ : ByteArray) 0)).keep (Below.refl _ _))) rfl (by decide))).keep (Below.refl _ _)))).keep (Below.refl _ _)) (⟨(fun x h => by cases h), (fun x h => by cases h), (by refine sz_own _ _ _ _ _ _ _ (by decide) (by decide) (by decide) ?_; simp only [szL, szA, szT, ownTm] <;> decide)⟩) (cell_keep hm hB) (tab_keep htab hB) (fun _ => by rw [print_bodyPr]; exact (sh_few _ .nilFunc).2.2)) (fun e w12 hR => ?_)
  obtain ⟨rfl, hbl7⟩ := hR
  refine ⟨_, rfl, ?_⟩
  replace hb1 := Below.old hbl7 hb1
  replace hb2 := Below.old hbl7 hb2
  replace hb3 := Below.old hbl7 hb3
  replace hb4 := Below.old hbl7 hb4
  replace hB := Below.andThen hB hbl7
  refine At.move rfl rfl ?_
  refine At.extract rfl rfl rfl ?_
  refine At.extract rfl rfl rfl ?_
  refine At.assign rfl rfl ?_
  refine At.assign rfl rfl ?_
  refine At.ops0 ?_
  refine At.thenN ?_
  refine At.seq ?_
  refine At.region ?_
  refine At.move rfl rfl ?_
  refine At.eqB' (a := (termL (ownTm 10 0 (⟨#[43]⟩ : ByteArray) (⟨#[]⟩ : ByteArray) 0 (.slice (some ⟨b3, 0, none⟩) 2 2) [(ownTm 6 0 (⟨#[]⟩ : ByteArray) (⟨#[]⟩ : ByteArray) 0 (.slice (some ⟨b1, 0, none⟩) 2 2) [(ownTm 1 0 (⟨#[102]⟩ : ByteArray) (⟨#[]⟩ : ByteArray) 0 (.slice none 0 0) []), (ownTm 1 0 (⟨#[120]⟩ : ByteArray) (⟨#[]⟩ : ByteArray) 0 (.slice none 0 0) [])]), (ownTm 2 0 (⟨#[]⟩ : ByteArray) (⟨#[]⟩ : ByteArray) 1 (.slice none 0 0) [])]))) (b := ([40, 32, 102, 32, 120, 32, 41, 32, 43, 32, 49] : List UInt8)) rfl rfl rfl ?_
  refine At.move rfl rfl ?_
  have hbb1 : (decide ((termL (ownTm 10 0 (⟨#[43]⟩ : ByteArray) (⟨#[]⟩ : ByteArray) 0 (.slice (some ⟨b3, 0, none⟩) 2 2) [(ownTm 6 0 (⟨#[]⟩ : ByteArray) (⟨#[]⟩ : ByteArray) 0 (.slice (some ⟨b1, 0, none⟩) 2 2) [(ownTm 1 0 (⟨#[102]⟩ : ByteArray) (⟨#[]⟩ : ByteArray) 0 (.slice none 0 0) []), (ownTm 1 0 (⟨#[120]⟩ : ByteArray) (⟨#[]⟩ : ByteArray) 0 (.slice none 0 0) [])]), (ownTm 2 0 (⟨#[]⟩ : ByteArray) (⟨#[]⟩ : ByteArray) 1 (.slice none 0 0) [])])) = ([40, 32, 102, 32, 120, 32, 41, 32, 43, 32, 49] : List UInt8))) = true := decide_eq_true (sh_text _ _).1
  refine At.set (d := 43) (u := .bool true) rfl (congrArg Value.bool hbb1) ?_
  refine At.yes rfl rfl rfl rfl ?_
  refine At.move rfl rfl ?_
  refine At.yes rfl rfl rfl rfl ?_
  refine At.eqI rfl rfl rfl ?_
  refine At.pickT rfl rfl rfl ?_
  refine At.move rfl rfl ?_
  have hbb2 : (decide ((if writtenB (ownTm 10 0 (⟨#[43]⟩ : ByteArray) (⟨#[]⟩ : ByteArray) 0 (.slice (some ⟨b3, 0, none⟩) 2 2) [(ownTm 6 0 (⟨#[]⟩ : ByteArray) (⟨#[]⟩ : ByteArray) 0 (.slice (some ⟨b1, 0, none⟩) 2 2) [(ownTm 1 0 (⟨#[102]⟩ : ByteArray) (⟨#[]⟩ : ByteArray) 0 (.slice none 0 0) []), (ownTm 1 0 (⟨#[120]⟩ : ByteArray) (⟨#[]⟩ : ByteArray) 0 (.slice none 0 0) [])]), (ownTm 2 0 (⟨#[]⟩ : ByteArray) (⟨#[]⟩ : ByteArray) 1 (.slice none 0 0) [])]) then (0 : Int) else 1) = 0)) = true := decide_eq_true (by rw [(sh_written _ _).1]; rfl)
  refine At.set (d := 47) (u := .bool true) rfl (congrArg Value.bool hbb2) ?_
  refine At.yes rfl rfl rfl rfl ?_
  refine At.move rfl rfl ?_
  refine At.yes rfl rfl rfl rfl ?_
  refine At.eqB' (a := (termL (ownTm 6 0 (⟨#[]⟩ : ByteArray) (⟨#[]⟩ : ByteArray) 0 (.slice (some ⟨b4, 0, none⟩) 2 2) [(ownTm 6 0 (⟨#[]⟩ : ByteArray) (⟨#[]⟩ : ByteArray) 0 (.slice (some ⟨b1, 0, none⟩) 2 2) [(ownTm 1 0 (⟨#[102]⟩ : ByteArray) (⟨#[]⟩ : ByteArray) 0 (.slice none 0 0) []), (ownTm 1 0 (⟨#[120]⟩ : ByteArray) (⟨#[]⟩ : ByteArray) 0 (.slice none 0 0) [])]), (ownTm 1 0 (⟨#[121]⟩ : ByteArray) (⟨#[]⟩ : ByteArray) 0 (.slice none 0 0) [])]))) (b := ([102, 32, 120, 32, 121] : List UInt8)) rfl rfl rfl ?_
  refine At.pickT rfl rfl rfl ?_
  refine At.move rfl rfl ?_
  have hbb3 : (decide ((termL (ownTm 6 0 (⟨#[]⟩ : ByteArray) (⟨#[]⟩ : ByteArray) 0 (.slice (some ⟨b4, 0, none⟩) 2 2) [(ownTm 6 0 (⟨#[]⟩ : ByteArray) (⟨#[]⟩ : ByteArray) 0 (.slice (some ⟨b1, 0, none⟩) 2 2) [(ownTm 1 0 (⟨#[102]⟩ : ByteArray) (⟨#[]⟩ : ByteArray) 0 (.slice none 0 0) []), (ownTm 1 0 (⟨#[120]⟩ : ByteArray) (⟨#[]⟩ : ByteArray) 0 (.slice none 0 0) [])]), (ownTm 1 0 (⟨#[121]⟩ : ByteArray) (⟨#[]⟩ : ByteArray) 0 (.slice none 0 0) [])])) = ([102, 32, 120, 32, 121] : List UInt8))) = true := decide_eq_true (sh_text _ _).2.1
  refine At.set (d := 51) (u := .bool true) rfl (congrArg Value.bool hbb3) ?_
  refine At.yes rfl rfl rfl rfl ?_
  refine At.move rfl rfl ?_
  refine At.yes rfl rfl rfl rfl ?_
  refine At.eqI rfl rfl rfl ?_
  refine At.pickT rfl rfl rfl ?_
  refine At.move rfl rfl ?_
  have hbb4 : (decide ((if writtenB (ownTm 6 0 (⟨#[]⟩ : ByteArray) (⟨#[]⟩ : ByteArray) 0 (.slice (some ⟨b4, 0, none⟩) 2 2) [(ownTm 6 0 (⟨#[]⟩ : ByteArray) (⟨#[]⟩ : ByteArray) 0 (.slice (some ⟨b1, 0, none⟩) 2 2) [(ownTm 1 0 (⟨#[102]⟩ : ByteArray) (⟨#[]⟩ : ByteArray) 0 (.slice none 0 0) []), (ownTm 1 0 (⟨#[120]⟩ : ByteArray) (⟨#[]⟩ : ByteArray) 0 (.slice none 0 0) [])]), (ownTm 1 0 (⟨#[121]⟩ : ByteArray) (⟨#[]⟩ : ByteArray) 0 (.slice none 0 0) [])]) then (0 : Int) else 1) = 0)) = true := decide_eq_true (by rw [(sh_written _ _).2.1]; rfl)
  refine At.set (d := 55) (u := .bool true) rfl (congrArg Value.bool hbb4) ?_
  refine At.yes rfl rfl rfl rfl ?_
  refine At.move rfl rfl ?_
  refine At.yes rfl rfl rfl rfl ?_
  refine At.eqI rfl rfl rfl ?_
  refine At.pickT rfl rfl rfl ?_
  refine At.move rfl rfl ?_
  have hbb5 : (decide ((if RightB (mkPr (.slice none 0 0) (.slice none 0 0) [] [] (ownTm 0 0 (⟨#[]⟩ : ByteArray) (⟨#[]⟩ : ByteArray) 0 (.slice none 0 0) [])) then (0 : Int) else 1) = 1)) = true := decide_eq_true (by rw [right_bodyPr, zero_written]; rfl)
  refine At.set (d := 59) (u := .bool true) rfl (congrArg Value.bool hbb5) ?_
  refine At.yes rfl rfl rfl rfl ?_
  refine At.move rfl rfl ?_
  refine At.yes rfl rfl rfl rfl ?_
  refine At.eqB' (a := (printL (mkPr (.slice none 0 0) (.slice none 0 0) [] [] (ownTm 6 0 (⟨#[]⟩ : ByteArray) (⟨#[]⟩ : ByteArray) 0 (.slice (some ⟨b1, 0, none⟩) 2 2) [(ownTm 1 0 (⟨#[102]⟩ : ByteArray) (⟨#[]⟩ : ByteArray) 0 (.slice none 0 0) []), (ownTm 1 0 (⟨#[120]⟩ : ByteArray) (⟨#[]⟩ : ByteArray) 0 (.slice none 0 0) [])])))) (b := ([102, 32, 120] : List UInt8)) rfl rfl rfl ?_
  refine At.pickT rfl rfl rfl ?_
  refine At.move rfl rfl ?_
  have hbb6 : (decide ((printL (mkPr (.slice none 0 0) (.slice none 0 0) [] [] (ownTm 6 0 (⟨#[]⟩ : ByteArray) (⟨#[]⟩ : ByteArray) 0 (.slice (some ⟨b1, 0, none⟩) 2 2) [(ownTm 1 0 (⟨#[102]⟩ : ByteArray) (⟨#[]⟩ : ByteArray) 0 (.slice none 0 0) []), (ownTm 1 0 (⟨#[120]⟩ : ByteArray) (⟨#[]⟩ : ByteArray) 0 (.slice none 0 0) [])]))) = ([102, 32, 120] : List UInt8))) = true := decide_eq_true (by rw [text_bodyPr]; exact (sh_text _ .nilFunc).2.2)
  refine At.set (d := 63) (u := .bool true) rfl (congrArg Value.bool hbb6) ?_
  refine At.yes rfl rfl rfl rfl ?_
  refine At.move rfl rfl ?_
  refine At.yes rfl rfl rfl rfl ?_
  refine At.eqI rfl rfl rfl ?_
  refine At.pickT rfl rfl rfl ?_
  refine At.move rfl rfl ?_
  have hbb7 : (decide ((if RightB (mkPr (.slice none 0 0) (.slice none 0 0) [] [] (ownTm 6 0 (⟨#[]⟩ : ByteArray) (⟨#[]⟩ : ByteArray) 0 (.slice (some ⟨b1, 0, none⟩) 2 2) [(ownTm 1 0 (⟨#[102]⟩ : ByteArray) (⟨#[]⟩ : ByteArray) 0 (.slice none 0 0) []), (ownTm 1 0 (⟨#[120]⟩ : ByteArray) (⟨#[]⟩ : ByteArray) 0 (.slice none 0 0) [])])) then (0 : Int) else 1) = 0)) = true := decide_eq_true (by rw [right_bodyPr, (sh_written _ .nilFunc).2.2]; rfl)
  refine At.set (d := 67) (u := .bool true) rfl (congrArg Value.bool hbb7) ?_
  refine At.yes rfl rfl rfl rfl ?_
  refine At.load rfl (Ld.own (C := #[.int .i64 6, .int .i64 0, .string (⟨#[]⟩ : ByteArray), .string (⟨#[]⟩ : ByteArray), .int .i64 0, (.slice (some ⟨b1, 0, none⟩) 2 2), (.slice none 0 0), .int .i64 0, .string (⟨#[]⟩ : ByteArray), .int .i64 0, (.slice none 0 0), (.slice none 0 0), .int .i64 0, (.slice none 0 0), .int .i64 0, .int .i64 0, .string (⟨#[]⟩ : ByteArray), .int .i64 0, (.slice none 0 0), (.slice none 0 0), .int .i64 0]) ag33 sz33 hb2) rfl ?_
  refine At.yes rfl rfl rfl rfl ?_
  refine At.build (C := splice #[(.slice none 0 0), (.slice none 0 0), .int .i64 0, .int .i64 0, .string (⟨#[]⟩ : ByteArray), .string (⟨#[]⟩ : ByteArray), .int .i64 0, (.slice none 0 0), (.slice none 0 0), .int .i64 0, .string (⟨#[]⟩ : ByteArray), .int .i64 0, (.slice none 0 0), (.slice none 0 0), .int .i64 0, (.slice none 0 0), .int .i64 0, .int .i64 0, .string (⟨#[]⟩ : ByteArray), .int .i64 0, (.slice none 0 0), (.slice none 0 0), .int .i64 0] 2 (ownTm 6 0 (⟨#[]⟩ : ByteArray) (⟨#[]⟩ : ByteArray) 0 (.slice (some ⟨b1, 0, none⟩) 2 2) [(ownTm 1 0 (⟨#[102]⟩ : ByteArray) (⟨#[]⟩ : ByteArray) 0 (.slice none 0 0) []), (ownTm 1 0 (⟨#[120]⟩ : ByteArray) (⟨#[]⟩ : ByteArray) 0 (.slice none 0 0) [])]).cs) sd35 ze35 rfl (Bld.cons fo35_2 ((ownTm_ok (m := 2) 6 0 (⟨#[]⟩ : ByteArray) (⟨#[]⟩ : ByteArray) 0 hb1 (mem2 (((ownTm_leaf _ 1 0 (⟨#[102]⟩ : ByteArray) (⟨#[]⟩ : ByteArray) 0)).keep (Below.refl _ _)) (((ownTm_leaf _ 1 0 (⟨#[120]⟩ : ByteArray) (⟨#[]⟩ : ByteArray) 0)).keep (Below.refl _ _))) rfl (by decide))).size (by decide) (Bld.nil _)) rfl ?_
  refine At.set (d := 69) (u := .agg (mkPr (.slice none 0 0) (.slice none 0 0) [] [] (ownTm 6 0 (⟨#[]⟩ : ByteArray) (⟨#[]⟩ : ByteArray) 0 (.slice (some ⟨b1, 0, none⟩) 2 2) [(ownTm 1 0 (⟨#[102]⟩ : ByteArray) (⟨#[]⟩ : ByteArray) 0 (.slice none 0 0) []), (ownTm 1 0 (⟨#[120]⟩ : ByteArray) (⟨#[]⟩ : ByteArray) 0 (.slice none 0 0) [])])).cs) rfl (congrArg Value.agg (splice_pr (by simp) ((ownTm_ok (m := 2) 6 0 (⟨#[]⟩ : ByteArray) (⟨#[]⟩ : ByteArray) 0 hb1 (mem2 (((ownTm_leaf _ 1 0 (⟨#[102]⟩ : ByteArray) (⟨#[]⟩ : ByteArray) 0)).keep (Below.refl _ _)) (((ownTm_leaf _ 1 0 (⟨#[120]⟩ : ByteArray) (⟨#[]⟩ : ByteArray) 0)).keep (Below.refl _ _))) rfl (by decide))).size rfl rfl)) ?_
  refine At.yes rfl rfl rfl rfl ?_
  refine At.call en10 rfl rfl (Right_any (mkPr (.slice none 0 0) (.slice none 0 0) [] [] (ownTm 6 0 (⟨#[]⟩ : ByteArray) (⟨#[]⟩ : ByteArray) 0 (.slice (some ⟨b1, 0, none⟩) 2 2) [(ownTm 1 0 (⟨#[102]⟩ : ByteArray) (⟨#[]⟩ : ByteArray) 0 (.slice none 0 0) []), (ownTm 1 0 (⟨#[120]⟩ : ByteArray) (⟨#[]⟩ : ByteArray) 0 (.slice none 0 0) [])])) m _ (((mkPr_ok (RowsAt.nil _ 2) (RowsAt.nil _ 2) (fun _ h => by cases h) (fun _ h => by cases h) (((ownTm_ok (m := 2) 6 0 (⟨#[]⟩ : ByteArray) (⟨#[]⟩ : ByteArray) 0 hb1 (mem2 (((ownTm_leaf _ 1 0 (⟨#[102]⟩ : ByteArray) (⟨#[]⟩ : ByteArray) 0)).keep (Below.refl _ _)) (((ownTm_leaf _ 1 0 (⟨#[120]⟩ : ByteArray) (⟨#[]⟩ : ByteArray) 0)).keep (Below.refl _ _))) rfl (by decide))).keep (Below.refl _ _)))).keep (Below.refl _ _)) (⟨(fun x h => by cases h), (fun x h => by cases h), (by refine sz_own _ _ _ _ _ _ _ (by decide) (by decide) (by decide) ?_; simp only [szL, szA, szT, ownTm] <;> decide)⟩) (cell_keep hm hB)) (fun e w13 hR => ?_)
  obtain ⟨rfl, hbl8⟩ := hR
  refine ⟨_, rfl, ?_⟩
  replace hb1 := Below.old hbl8 hb1
  replace hb2 := Below.old hbl8 hb2
  replace hb3 := Below.old hbl8 hb3
  replace hb4 := Below.old hbl8 hb4
  replace hB := Below.andThen hB hbl8
  refine At.pickT rfl rfl rfl ?_
  refine At.assign rfl rfl ?_
  refine At.ops0 ?_
  refine At.thenN ?_
  refine At.retc ?_
  refine At.doneR (ResV.tmp rfl ResV.nil) ?_
  exact ⟨congrArg Ending.returned (congrArg Value.bool (show (RightB (mkPr (.slice none 0 0) (.slice none 0 0) [] [] (ownTm 6 0 (⟨#[]⟩ : ByteArray) (⟨#[]⟩ : ByteArray) 0 (.slice (some ⟨b1, 0, none⟩) 2 2) [(ownTm 1 0 (⟨#[102]⟩ : ByteArray) (⟨#[]⟩ : ByteArray) 0 (.slice none 0 0) []), (ownTm 1 0 (⟨#[120]⟩ : ByteArray) (⟨#[]⟩ : ByteArray) 0 (.slice none 0 0) [])]))) = true by rw [right_bodyPr]; exact (sh_written _ .nilFunc).2.2)), hB⟩
theorem printWithin_any (p : Pr) (m : Int) (w : World) (hp : PrOk w p) (hz : SzP p) (hwt : wtT p.body ≤ 4194304) (hfp : RightB p = true → FewW (printW p)) (hm : w.cell? ⟨0, 0, none⟩ = some (.int .i64 m)) (htab : Tab w) (hll : p.effs.length ≤ 1073741824 ∧ p.dats.length ≤ 1073741824) :
    Calls Tryd.prog 3 ([.agg p.cs] : List Value).toArray w fun e w' => e = .returned (.bool true) ∧ Below w.heap.size w w' := by
  have hB := Below.refl w.heap.size w
  refine At.enter (N := 82) Tryd.func3 rfl rfl (by simp) [(0, .agg p.cs)] (by simp) ?_
  refine At.seq ?_
  refine At.region ?_
  refine At.box rfl rfl (fun b1 w1 F1 => ?_)
  have gb1 := F1.ge hB
  have hb1 : w1.heap[b1]? = some (.cells p.cs 35) := F1.new
  replace hB := F1.below' hB
  refine At.assign rfl rfl ?_
  refine At.ops0 ?_
  refine At.thenN ?_
  refine At.seq ?_
  refine At.region ?_
  refine At.call en5 rfl rfl (shown_any m _ (cell_keep hm hB) (tab_keep htab hB)) (fun e w2 hR => ?_)
  obtain ⟨rfl, hbl1⟩ := hR
  refine ⟨_, rfl, ?_⟩
  replace hb1 := Below.old hbl1 hb1
  replace hB := Below.andThen hB hbl1
  refine At.assign rfl rfl ?_
  refine At.ops0 ?_
  refine At.thenN ?_
  refine At.seq ?_
  refine At.seq ?_
  refine At.region ?_
  refine At.load rfl (Ld.own ag35 (sz35.trans (congrArg some (hp).size.symm)) hb1) rfl ?_
  refine At.call en6 rfl rfl (largeP_any p _ ((hp).keep hB)) (fun e w3 hR => ?_)
  obtain ⟨lg1, rfl, hbl2⟩ := hR
  refine ⟨_, rfl, ?_⟩
  replace hb1 := Below.old hbl2 hb1
  replace hB := Below.andThen hB hbl2
  refine At.ops0 ?_
  refine At.thenN ?_
  refine At.cond (b := lg1) rfl (fun hc1 => ?_) (fun hc1 => ?_)
  · skip
    refine At.seq ?_
    refine At.region ?_
    refine At.move rfl rfl ?_
    refine At.assign rfl rfl ?_
    refine At.ops0 ?_
    refine At.thenN ?_
    refine At.retc ?_
    refine At.thenR ?_
    refine At.doneR (ResV.tmp rfl ResV.nil) ?_
    exact ⟨rfl, hB⟩
  · skip
    refine At.skip ?_
    refine At.thenN ?_
    refine At.seq ?_
    refine At.region ?_
    refine At.load rfl (Ld.own ag35 (sz35.trans (congrArg some (hp).size.symm)) hb1) rfl ?_
    refine At.call en7 rfl rfl (print_any p m _ ((hp).keep hB) (hz) (cell_keep hm hB) (tab_keep htab hB) (hfp)) (fun e w4 hR => ?_)
    obtain ⟨rfl, hbl3⟩ := hR
    refine ⟨_, rfl, ?_⟩
    replace hb1 := Below.old hbl3 hb1
    replace hB := Below.andThen hB hbl3
    refine At.move rfl rfl ?_
    refine At.extract rfl rfl rfl ?_
    refine At.extract rfl rfl rfl ?_
    refine At.assign rfl rfl ?_
    refine At.assign rfl rfl ?_
    refine At.ops0 ?_
    refine At.thenN ?_
    refine At.seq ?_
    refine At.region ?_
    refine At.fieldAddr rfl fo35_2 rfl ?_
    refine At.load rfl (Ld.ownPart ag33 (sz33.trans (congrArg some ((hp).bodyOk).size.symm)) hb1 (hp).bodyCs) rfl ?_
    refine At.call en8 rfl rfl (term_any p.body m _ (((hp).bodyOk).keep hB) (hz.body) (cell_keep hm hB) (tab_keep htab hB) (fun h => few_t hz.body h hwt)) (fun e w5 hR => ?_)
    obtain ⟨rfl, hbl4⟩ := hR
    refine ⟨_, rfl, ?_⟩
    replace hb1 := Below.old hbl4 hb1
    replace hB := Below.andThen hB hbl4
    refine At.move rfl rfl ?_
    refine At.extract rfl rfl rfl ?_
    refine At.extract rfl rfl rfl ?_
    refine At.assign rfl rfl ?_
    refine At.assign rfl rfl ?_
    refine At.ops0 ?_
    refine At.thenN ?_
    refine At.seq ?_
    refine At.region ?_
    refine At.fieldAddr rfl fo35_2 rfl ?_
    refine At.load rfl (Ld.ownPart ag33 (sz33.trans (congrArg some ((hp).bodyOk).size.symm)) hb1 (hp).bodyCs) rfl ?_
    refine At.build (C := splice #[(.slice none 0 0), (.slice none 0 0), .int .i64 0, .int .i64 0, .string (⟨#[]⟩ : ByteArray), .string (⟨#[]⟩ : ByteArray), .int .i64 0, (.slice none 0 0), (.slice none 0 0), .int .i64 0, .string (⟨#[]⟩ : ByteArray), .int .i64 0, (.slice none 0 0), (.slice none 0 0), .int .i64 0, (.slice none 0 0), .int .i64 0, .int .i64 0, .string (⟨#[]⟩ : ByteArray), .int .i64 0, (.slice none 0 0), (.slice none 0 0), .int .i64 0] 2 p.body.cs) sd35 ze35 rfl (Bld.cons fo35_2 ((hp).bodyOk).size (by decide) (Bld.nil _)) rfl ?_
    refine At.set (d := 28) (u := .agg (mkPr (.slice none 0 0) (.slice none 0 0) [] [] p.body).cs) rfl (congrArg Value.agg (splice_pr (by simp) ((hp).bodyOk).size rfl rfl)) ?_
    refine At.call en7 rfl rfl (print_any (mkPr (.slice none 0 0) (.slice none 0 0) [] [] p.body) m _ (((mkPr_ok (RowsAt.nil _ 2) (RowsAt.nil _ 2) (fun _ h => by cases h) (fun _ h => by cases h) (((hp).bodyOk).keep hB))).keep (Below.refl _ _)) (⟨(fun x h => by cases h), (fun x h => by cases h), hz.body⟩) (cell_keep hm hB) (tab_keep htab hB) (fun h => by rw [right_bodyPr] at h; rw [print_bodyPr]; exact few_t hz.body (written_right h) hwt)) (fun e w6 hR => ?_)
    obtain ⟨rfl, hbl5⟩ := hR
    refine ⟨_, rfl, ?_⟩
    replace hb1 := Below.old hbl5 hb1
    replace hB := Below.andThen hB hbl5
    refine At.move rfl rfl ?_
    refine At.extract rfl rfl rfl ?_
    refine At.extract rfl rfl rfl ?_
    refine At.assign rfl rfl ?_
    refine At.assign rfl rfl ?_
    refine At.ops0 ?_
    refine At.thenN ?_
    refine At.seq ?_
    refine At.seq ?_
    refine At.region ?_
    refine At.move rfl rfl ?_
    refine At.move rfl rfl ?_
    refine At.neB' (a := (termL p.body)) (b := (printL (mkPr (.slice none 0 0) (.slice none 0 0) [] [] p.body))) rfl rfl rfl ?_
    refine At.move rfl rfl ?_
    have hbb1 : ((!decide ((termL p.body) = (printL (mkPr (.slice none 0 0) (.slice none 0 0) [] [] p.body))))) = false := by rw [text_bodyPr]; simp
    refine At.set (d := 35) (u := .bool false) rfl (congrArg Value.bool hbb1) ?_
    refine At.yes rfl rfl rfl rfl ?_
    refine At.move rfl rfl ?_
    refine At.yes rfl rfl rfl rfl ?_
    refine At.move rfl rfl ?_
    refine At.yes rfl rfl rfl rfl ?_
    refine At.neI rfl rfl rfl ?_
    refine At.pickF rfl rfl rfl ?_
    refine At.ops0 ?_
    refine At.thenN ?_
    have hb : ((!decide ((if writtenB p.body then (0 : Int) else 1) = (if RightB (mkPr (.slice none 0 0) (.slice none 0 0) [] [] p.body) then (0 : Int) else 1)))) = false := by rw [right_bodyPr]; simp
    refine At.set (d := 39) (u := .bool false) rfl (congrArg Value.bool hb) ?_
    refine At.condF rfl ?_
    refine At.skip ?_
    refine At.thenN ?_
    refine At.seq ?_
    refine At.seq ?_
    refine At.region ?_
    refine At.move rfl rfl ?_
    refine At.neI rfl rfl rfl ?_
    refine At.ops0 ?_
    refine At.thenN ?_
    refine At.cond (b := (!decide ((if RightB p then (0 : Int) else 1) = 0))) rfl (fun hc2 => ?_) (fun hc2 => ?_)
    · skip
      have hc2' := hc2; simp only [Bool.not_eq_true', Bool.not_eq_false', decide_eq_true_eq, decide_eq_false_iff_not] at hc2'
      refine At.seq ?_
      refine At.region ?_
      refine At.move rfl rfl ?_
      refine At.assign rfl rfl ?_
      refine At.ops0 ?_
      refine At.thenN ?_
      refine At.retc ?_
      refine At.thenR ?_
      refine At.doneR (ResV.tmp rfl ResV.nil) ?_
      exact ⟨rfl, hB⟩
    · skip
      have hc2' := hc2; simp only [Bool.not_eq_true', Bool.not_eq_false', decide_eq_true_eq, decide_eq_false_iff_not] at hc2'
      refine At.skip ?_
      refine At.thenN ?_
      refine At.seq ?_
      have hRp : RightB p = true := by
        cases hx : RightB p with
        | true => rfl
        | false => rw [hx] at hc2; revert hc2; decide
      have hwb := right_body hRp; have hpi := print_is hRp; have hln := congrArg List.length hpi; rw [List.length_append] at hln
      have hlp := hp.effsAt.lenL; have hlq := hp.datsAt.lenL
      obtain ⟨hl1, hl2⟩ := hll
      have hpb := print_len hRp (hfp hRp)
      refine At.region ?_
      refine At.move rfl rfl ?_
      refine At.move rfl rfl ?_
      refine At.yes rfl rfl rfl rfl ?_
      refine At.move rfl rfl ?_
      refine At.yes rfl rfl rfl rfl ?_
      refine At.eqI rfl rfl rfl ?_
      refine At.pickT rfl rfl rfl ?_
      refine At.move rfl rfl ?_
      have hbb2 : (decide ((if writtenB p.body then (0 : Int) else 1) = 0)) = true := by rw [hwb]; decide
      refine At.set (d := 48) (u := .bool true) rfl (congrArg Value.bool hbb2) ?_
      refine At.yes rfl rfl rfl rfl ?_
      refine At.move rfl rfl ?_
      refine At.yes rfl rfl rfl rfl ?_
      refine At.lenB (l := (termL p.body)) rfl st9 rfl ?_
      refine At.yes rfl rfl rfl rfl ?_
      refine At.move rfl rfl ?_
      refine At.yes rfl rfl rfl rfl ?_
      refine At.lenB (l := (printL p)) rfl st9 rfl ?_
      refine At.yes rfl rfl rfl rfl ?_
      refine At.leq rfl rfl rfl ?_
      refine At.pickT rfl rfl rfl ?_
      refine At.move rfl rfl ?_
      have hbb3 : (decide (((termL p.body).length : Int) ≤ ((printL p).length : Int))) = true := decide_eq_true (by omega)
      refine At.set (d := 55) (u := .bool true) rfl (congrArg Value.bool hbb3) ?_
      refine At.yes rfl rfl rfl rfl ?_
      refine At.move rfl rfl ?_
      refine At.yes rfl rfl rfl rfl ?_
      refine At.move rfl rfl ?_
      refine At.yes rfl rfl rfl rfl ?_
      refine At.lenB (l := (printL p)) rfl st9 rfl ?_
      refine At.yes rfl rfl rfl rfl ?_
      refine At.move rfl rfl ?_
      refine At.yes rfl rfl rfl rfl ?_
      refine At.lenB (l := (termL p.body)) rfl st9 rfl ?_
      refine At.yes rfl rfl rfl rfl ?_
      refine At.subI rfl rfl rfl (by omega) ?_
      refine At.set (d := 61) (u := .int .i64 ((((printL p).length - (termL p.body).length) : Nat) : Int)) rfl (congrArg (Value.int .i64) (by omega)) ?_
      refine At.yes rfl rfl rfl rfl ?_
      have hle1 : ((printL p).length - (termL p.body).length) ≤ (printL p).length := by omega
      refine At.dropB (l := (printL p)) (h := ((printL p).length - (termL p.body).length)) rfl rfl st9 hle1 rfl ?_
      refine At.yes rfl rfl rfl rfl ?_
      refine At.move rfl rfl ?_
      refine At.yes rfl rfl rfl rfl ?_
      refine At.eqB' (a := ((printL p).drop ((printL p).length - (termL p.body).length))) (b := (termL p.body)) rfl rfl rfl ?_
      refine At.pickT rfl rfl rfl ?_
      refine At.move rfl rfl ?_
      have hbb4 : (decide (((printL p).drop ((printL p).length - (termL p.body).length)) = (termL p.body))) = true := decide_eq_true (by rw [hln, Nat.add_sub_cancel, hpi, List.drop_left])
      refine At.set (d := 66) (u := .bool true) rfl (congrArg Value.bool hbb4) ?_
      refine At.yes rfl rfl rfl rfl ?_
      refine At.fieldAddr rfl fo35_0 rfl ?_
      refine At.yes rfl rfl rfl rfl ?_
      refine At.load rfl (Ld.ownCell ag22 hb1 (hp).c0) rfl ?_
      refine At.yes rfl rfl rfl rfl ?_
      refine At.lenSl rfl ((hp).effsAt).okL el22 rfl ?_
      refine At.yes rfl rfl rfl rfl ?_
      refine At.fieldAddr rfl fo35_1 rfl ?_
      refine At.yes rfl rfl rfl rfl ?_
      refine At.load rfl (Ld.ownCell ag23 hb1 (hp).c1) rfl ?_
      refine At.yes rfl rfl rfl rfl ?_
      refine At.lenSl rfl ((hp).datsAt).okL el23 rfl ?_
      refine At.yes rfl rfl rfl rfl ?_
      refine At.addI rfl rfl rfl (by omega) ?_
      refine At.yes rfl rfl rfl rfl ?_
      refine At.gtr rfl rfl rfl ?_
      refine At.yes rfl rfl rfl rfl ?_
      refine At.move rfl rfl ?_
      refine At.yes rfl rfl rfl rfl ?_
      refine At.lenB (l := (printL p)) rfl st9 rfl ?_
      refine At.yes rfl rfl rfl rfl ?_
      refine At.move rfl rfl ?_
      refine At.yes rfl rfl rfl rfl ?_
      refine At.lenB (l := (termL p.body)) rfl st9 rfl ?_
      refine At.yes rfl rfl rfl rfl ?_
      refine At.gtr rfl rfl rfl ?_
      refine At.yes rfl rfl rfl rfl ?_
      refine At.eqB rfl rfl bo4 rfl ?_
      refine At.pickT rfl rfl rfl ?_
      refine At.assign rfl rfl ?_
      refine At.ops0 ?_
      refine At.thenN ?_
      refine At.retc ?_
      refine At.doneR (ResV.tmp rfl ResV.nil) ?_
      exact ⟨congrArg Ending.returned (congrArg Value.bool (show (decide (decide (0 < ((p.effs.length : Int) + (p.dats.length : Int))) = decide (((termL p.body).length : Int) < ((printL p).length : Int)))) = true from decide_eq_true (by
        by_cases hd : p.effs.length + p.dats.length = 0
        · have := head_nil hd
          rw [this, List.length_nil] at hln
          rw [decide_eq_false (by omega), decide_eq_false (by omega)]
        · have := head_ne hd
          rw [decide_eq_true (by omega), decide_eq_true (by omega)]))), hB⟩
theorem printHead_any (p : Pr) (t : Tm) (m : Int) (w : World) (hp : PrOk w p) (hz : SzP p) (hwt : wtT p.body ≤ 4194304) (hfp : RightB p = true → FewW (printW p)) (hm : w.cell? ⟨0, 0, none⟩ = some (.int .i64 m)) (htab : Tab w) (ht : TmOk w t) (hzt : szT t) (hwtt : wtT t ≤ 4194304) (hfq : RightB (mkPr p.ev p.dv p.effs p.dats t) = true → FewW (printW (mkPr p.ev p.dv p.effs p.dats t))) :
    Calls Tryd.prog 4 ([.agg p.cs, .agg t.cs] : List Value).toArray w fun e w' => e = .returned (.bool true) ∧ Below w.heap.size w w' := by
  have hB := Below.refl w.heap.size w
  refine At.enter (N := 95) Tryd.func4 rfl rfl (by simp) [(0, .agg p.cs), (1, .agg t.cs)] (by simp) ?_
  refine At.seq ?_
  refine At.region ?_
  refine At.box rfl rfl (fun b1 w1 F1 => ?_)
  have gb1 := F1.ge hB
  have hb1 : w1.heap[b1]? = some (.cells p.cs 35) := F1.new
  replace hB := F1.below' hB
  refine At.box rfl rfl (fun b2 w2 F2 => ?_)
  have n_b1_b2 : b1 ≠ b2 := Nat.ne_of_lt (F2.lt hb1)
  have gb2 := F2.ge hB
  replace hb1 := F2.old hb1
  have hb2 : w2.heap[b2]? = some (.cells t.cs 33) := F2.new
  replace hB := F2.below' hB
  refine At.assign rfl rfl ?_
  refine At.ops0 ?_
  refine At.thenN ?_
  refine At.seq ?_
  refine At.region ?_
  refine At.call en5 rfl rfl (shown_any m _ (cell_keep hm hB) (tab_keep htab hB)) (fun e w3 hR => ?_)
  obtain ⟨rfl, hbl1⟩ := hR
  refine ⟨_, rfl, ?_⟩
  replace hb1 := Below.old hbl1 hb1
  replace hb2 := Below.old hbl1 hb2
  replace hB := Below.andThen hB hbl1
  refine At.assign rfl rfl ?_
  refine At.ops0 ?_
  refine At.thenN ?_
  refine At.seq ?_
  refine At.region ?_
  refine At.fieldAddr rfl fo35_0 rfl ?_
  refine At.load rfl (Ld.ownCell ag22 hb1 (hp).c0) rfl ?_
  refine At.fieldAddr rfl fo35_1 rfl ?_
  refine At.load rfl (Ld.ownCell ag23 hb1 (hp).c1) rfl ?_
  refine At.load rfl (Ld.own ag33 (sz33.trans (congrArg some (ht).size.symm)) hb2) rfl ?_
  refine At.build (C := splice #[p.ev, p.dv, .int .i64 0, .int .i64 0, .string (⟨#[]⟩ : ByteArray), .string (⟨#[]⟩ : ByteArray), .int .i64 0, (.slice none 0 0), (.slice none 0 0), .int .i64 0, .string (⟨#[]⟩ : ByteArray), .int .i64 0, (.slice none 0 0), (.slice none 0 0), .int .i64 0, (.slice none 0 0), .int .i64 0, .int .i64 0, .string (⟨#[]⟩ : ByteArray), .int .i64 0, (.slice none 0 0), (.slice none 0 0), .int .i64 0] 2 t.cs) sd35 ze35 rfl (Bld.one (C := #[(.slice none 0 0), (.slice none 0 0), .int .i64 0, .int .i64 0, .string (⟨#[]⟩ : ByteArray), .string (⟨#[]⟩ : ByteArray), .int .i64 0, (.slice none 0 0), (.slice none 0 0), .int .i64 0, .string (⟨#[]⟩ : ByteArray), .int .i64 0, (.slice none 0 0), (.slice none 0 0), .int .i64 0, (.slice none 0 0), .int .i64 0, .int .i64 0, .string (⟨#[]⟩ : ByteArray), .int .i64 0, (.slice none 0 0), (.slice none 0 0), .int .i64 0]) fo35_0 (((hp).effsAt).okL).one (by decide) (Bld.one fo35_1 (((hp).datsAt).okL).one (by simp) (show Bld _ _ #[p.ev, p.dv, .int .i64 0, .int .i64 0, .string (⟨#[]⟩ : ByteArray), .string (⟨#[]⟩ : ByteArray), .int .i64 0, (.slice none 0 0), (.slice none 0 0), .int .i64 0, .string (⟨#[]⟩ : ByteArray), .int .i64 0, (.slice none 0 0), (.slice none 0 0), .int .i64 0, (.slice none 0 0), .int .i64 0, .int .i64 0, .string (⟨#[]⟩ : ByteArray), .int .i64 0, (.slice none 0 0), (.slice none 0 0), .int .i64 0] _ _ from (Bld.cons fo35_2 (ht).size (by simp) (Bld.nil _))))) rfl ?_
  refine At.set (d := 21) (u := .agg (mkPr p.ev p.dv p.effs p.dats t).cs) rfl (congrArg Value.agg (splice_pr (by simp) (ht).size rfl rfl)) ?_
  refine At.alloc ze35 rfl (fun b3 w4 F3 => ?_)
  have n_b1_b3 : b1 ≠ b3 := Nat.ne_of_lt (F3.lt hb1)
  have n_b2_b3 : b2 ≠ b3 := Nat.ne_of_lt (F3.lt hb2)
  have gb3 := F3.ge hB
  replace hb1 := F3.old hb1
  replace hb2 := F3.old hb2
  have hb3 : w4.heap[b3]? = some (.cells #[(.slice none 0 0), (.slice none 0 0), .int .i64 0, .int .i64 0, .string (⟨#[]⟩ : ByteArray), .string (⟨#[]⟩ : ByteArray), .int .i64 0, (.slice none 0 0), (.slice none 0 0), .int .i64 0, .string (⟨#[]⟩ : ByteArray), .int .i64 0, (.slice none 0 0), (.slice none 0 0), .int .i64 0, (.slice none 0 0), .int .i64 0, .int .i64 0, .string (⟨#[]⟩ : ByteArray), .int .i64 0, (.slice none 0 0), (.slice none 0 0), .int .i64 0] 35) := F3.new
  replace hB := F3.below' hB
  refine At.storeAll rfl rfl hb3 (sz35.trans (congrArg some ((mkPr_ok (((hp).effsAt).keep hB) (((hp).datsAt).keep hB) (fun u hu => ((hp).effOk u hu).keep hB) (fun u hu => ((hp).datOk u hu).keep hB) ((ht).keep hB))).size.symm)) ((mkPr_ok (((hp).effsAt).keep hB) (((hp).datsAt).keep hB) (fun u hu => ((hp).effOk u hu).keep hB) (fun u hu => ((hp).datOk u hu).keep hB) ((ht).keep hB))).size.symm ((mkPr_ok (((hp).effsAt).keep hB) (((hp).datsAt).keep hB) (fun u hu => ((hp).effOk u hu).keep hB) (fun u hu => ((hp).datOk u hu).keep hB) ((ht).keep hB))).one (fun w5 S1 => ?_)
  replace hb1 := S1.other hb1 n_b1_b3
  replace hb2 := S1.other hb2 n_b2_b3
  replace hb3 : w5.heap[b3]? = some (.cells (mkPr p.ev p.dv p.effs p.dats t).cs 35) := S1.new
  replace hB := S1.below' hB gb3
  refine At.ops0 ?_
  refine At.thenN ?_
  refine At.seq ?_
  refine At.seq ?_
  refine At.region ?_
  refine At.load rfl (Ld.own ag35 (sz35.trans (congrArg some (hp).size.symm)) hb1) rfl ?_
  refine At.call en6 rfl rfl (largeP_any p _ ((hp).keep hB)) (fun e w6 hR => ?_)
  obtain ⟨lg1, rfl, hbl2⟩ := hR
  refine ⟨_, rfl, ?_⟩
  replace hb1 := Below.old hbl2 hb1
  replace hb2 := Below.old hbl2 hb2
  replace hb3 := Below.old hbl2 hb3
  replace hB := Below.andThen hB hbl2
  refine At.move rfl rfl ?_
  refine At.cases (lg1) (fun hg1 => ?_) (fun hg1 => ?_)
  · skip
    refine At.set (d := 24) (u := .bool true) rfl (congrArg Value.bool hg1) ?_
    refine At.no rfl rfl rfl rfl rfl rfl rfl ?_
    refine At.no rfl rfl rfl rfl rfl rfl rfl ?_
    refine At.pickT rfl rfl rfl ?_
    refine At.ops0 ?_
    refine At.thenN ?_
    refine At.condT rfl ?_
    refine At.seq ?_
    refine At.region ?_
    refine At.move rfl rfl ?_
    refine At.assign rfl rfl ?_
    refine At.ops0 ?_
    refine At.thenN ?_
    refine At.retc ?_
    refine At.thenR ?_
    refine At.doneR (ResV.tmp rfl ResV.nil) ?_
    exact ⟨rfl, hB⟩
  · skip
    refine At.set (d := 24) (u := .bool false) rfl (congrArg Value.bool hg1) ?_
    refine At.yes rfl rfl rfl rfl ?_
    refine At.load rfl (Ld.own ag35 (sz35.trans (congrArg some ((mkPr_ok (((hp).effsAt).keep hB) (((hp).datsAt).keep hB) (fun u hu => ((hp).effOk u hu).keep hB) (fun u hu => ((hp).datOk u hu).keep hB) ((ht).keep hB))).size.symm)) hb3) rfl ?_
    refine At.yes rfl rfl rfl rfl ?_
    refine At.call en6 rfl rfl (largeP_any (mkPr p.ev p.dv p.effs p.dats t) _ (((mkPr_ok (((hp).effsAt).keep hB) (((hp).datsAt).keep hB) (fun u hu => ((hp).effOk u hu).keep hB) (fun u hu => ((hp).datOk u hu).keep hB) ((ht).keep hB))).keep (Below.refl _ _))) (fun e w7 hR => ?_)
    obtain ⟨lg2, rfl, hbl3⟩ := hR
    refine ⟨_, rfl, ?_⟩
    replace hb1 := Below.old hbl3 hb1
    replace hb2 := Below.old hbl3 hb2
    replace hb3 := Below.old hbl3 hb3
    replace hB := Below.andThen hB hbl3
    refine At.pickF rfl rfl rfl ?_
    refine At.ops0 ?_
    refine At.thenN ?_
    refine At.cond (b := lg2) rfl (fun hc1 => ?_) (fun hc1 => ?_)
    · skip
      refine At.seq ?_
      refine At.region ?_
      refine At.move rfl rfl ?_
      refine At.assign rfl rfl ?_
      refine At.ops0 ?_
      refine At.thenN ?_
      refine At.retc ?_
      refine At.thenR ?_
      refine At.doneR (ResV.tmp rfl ResV.nil) ?_
      exact ⟨rfl, hB⟩
    · skip
      refine At.skip ?_
      refine At.thenN ?_
      refine At.seq ?_
      refine At.region ?_
      refine At.load rfl (Ld.own ag35 (sz35.trans (congrArg some (hp).size.symm)) hb1) rfl ?_
      refine At.call en7 rfl rfl (print_any p m _ ((hp).keep hB) (hz) (cell_keep hm hB) (tab_keep htab hB) (hfp)) (fun e w8 hR => ?_)
      obtain ⟨rfl, hbl4⟩ := hR
      refine ⟨_, rfl, ?_⟩
      replace hb1 := Below.old hbl4 hb1
      replace hb2 := Below.old hbl4 hb2
      replace hb3 := Below.old hbl4 hb3
      replace hB := Below.andThen hB hbl4
      refine At.move rfl rfl ?_
      refine At.extract rfl rfl rfl ?_
      refine At.extract rfl rfl rfl ?_
      refine At.assign rfl rfl ?_
      refine At.assign rfl rfl ?_
      refine At.ops0 ?_
      refine At.thenN ?_
      refine At.seq ?_
      refine At.region ?_
      refine At.load rfl (Ld.own ag35 (sz35.trans (congrArg some ((mkPr_ok (((hp).effsAt).keep hB) (((hp).datsAt).keep hB) (fun u hu => ((hp).effOk u hu).keep hB) (fun u hu => ((hp).datOk u hu).keep hB) ((ht).keep hB))).size.symm)) hb3) rfl ?_
      refine At.call en7 rfl rfl (print_any (mkPr p.ev p.dv p.effs p.dats t) m _ (((mkPr_ok (((hp).effsAt).keep hB) (((hp).datsAt).keep hB) (fun u hu => ((hp).effOk u hu).keep hB) (fun u hu => ((hp).datOk u hu).keep hB) ((ht).keep hB))).keep (Below.refl _ _)) (⟨hz.effs, hz.dats, hzt⟩) (cell_keep hm hB) (tab_keep htab hB) (hfq)) (fun e w9 hR => ?_)
      obtain ⟨rfl, hbl5⟩ := hR
      refine ⟨_, rfl, ?_⟩
      replace hb1 := Below.old hbl5 hb1
      replace hb2 := Below.old hbl5 hb2
      replace hb3 := Below.old hbl5 hb3
      replace hB := Below.andThen hB hbl5
      refine At.move rfl rfl ?_
      refine At.extract rfl rfl rfl ?_
      refine At.extract rfl rfl rfl ?_
      refine At.assign rfl rfl ?_
      refine At.assign rfl rfl ?_
      refine At.ops0 ?_
      refine At.thenN ?_
      refine At.seq ?_
      refine At.seq ?_
      refine At.region ?_
      refine At.move rfl rfl ?_
      refine At.neI rfl rfl rfl ?_
      refine At.move rfl rfl ?_
      refine At.cases ((!decide ((if RightB p then (0 : Int) else 1) = 0))) (fun hg2 => ?_) (fun hg2 => ?_)
      · skip
        refine At.set (d := 41) (u := .bool true) rfl (congrArg Value.bool hg2) ?_
        have hg2' := hg2; simp only [Bool.not_eq_true', Bool.not_eq_false', decide_eq_true_eq, decide_eq_false_iff_not] at hg2'
        refine At.no rfl rfl rfl rfl rfl rfl rfl ?_
        refine At.no rfl rfl rfl rfl rfl rfl rfl ?_
        refine At.pickT rfl rfl rfl ?_
        refine At.ops0 ?_
        refine At.thenN ?_
        refine At.condT rfl ?_
        refine At.seq ?_
        refine At.region ?_
        refine At.move rfl rfl ?_
        refine At.assign rfl rfl ?_
        refine At.ops0 ?_
        refine At.thenN ?_
        refine At.retc ?_
        refine At.thenR ?_
        refine At.doneR (ResV.tmp rfl ResV.nil) ?_
        exact ⟨rfl, hB⟩
      · skip
        refine At.set (d := 41) (u := .bool false) rfl (congrArg Value.bool hg2) ?_
        have hg2' := hg2; simp only [Bool.not_eq_true', Bool.not_eq_false', decide_eq_true_eq, decide_eq_false_iff_not] at hg2'
        refine At.yes rfl rfl rfl rfl ?_
        refine At.move rfl rfl ?_
        refine At.yes rfl rfl rfl rfl ?_
        refine At.neI rfl rfl rfl ?_
        refine At.pickF rfl rfl rfl ?_
        refine At.ops0 ?_
        refine At.thenN ?_
        refine At.cond (b := (!decide ((if RightB (mkPr p.ev p.dv p.effs p.dats t) then (0 : Int) else 1) = 0))) rfl (fun hc2 => ?_) (fun hc2 => ?_)
        · skip
          have hc2' := hc2; simp only [Bool.not_eq_true', Bool.not_eq_false', decide_eq_true_eq, decide_eq_false_iff_not] at hc2'
          refine At.seq ?_
          refine At.region ?_
          refine At.move rfl rfl ?_
          refine At.assign rfl rfl ?_
          refine At.ops0 ?_
          refine At.thenN ?_
          refine At.retc ?_
          refine At.thenR ?_
          refine At.doneR (ResV.tmp rfl ResV.nil) ?_
          exact ⟨rfl, hB⟩
        · skip
          have hc2' := hc2; simp only [Bool.not_eq_true', Bool.not_eq_false', decide_eq_true_eq, decide_eq_false_iff_not] at hc2'
          refine At.skip ?_
          refine At.thenN ?_
          refine At.seq ?_
          have hRp : RightB p = true := by
            cases hx : RightB p with
            | true => rfl
            | false => rw [hx] at hg2; revert hg2; decide
          have hRq : RightB (mkPr p.ev p.dv p.effs p.dats t) = true := by
            cases hx : RightB (mkPr p.ev p.dv p.effs p.dats t) with
            | true => rfl
            | false => rw [hx] at hc2; revert hc2; decide
          have hwp := right_body hRp
          have hwq : writtenB t = true := right_body hRq
          have hpi := print_is hRp
          have hqi : printL (mkPr p.ev p.dv p.effs p.dats t) = headL p ++ termL t := print_is hRq
          have hln := congrArg List.length hpi; rw [List.length_append] at hln
          have hlm := congrArg List.length hqi; rw [List.length_append] at hlm
          have hpb := print_len hRp (hfp hRp)
          have hqb := print_len hRq (hfq hRq)
          refine At.region ?_
          refine At.fieldAddr rfl fo35_2 rfl ?_
          refine At.load rfl (Ld.ownPart ag33 (sz33.trans (congrArg some ((hp).bodyOk).size.symm)) hb1 (hp).bodyCs) rfl ?_
          refine At.call en8 rfl rfl (term_any p.body m _ (((hp).bodyOk).keep hB) (hz.body) (cell_keep hm hB) (tab_keep htab hB) (fun h => few_t hz.body h hwt)) (fun e w10 hR => ?_)
          obtain ⟨rfl, hbl6⟩ := hR
          refine ⟨_, rfl, ?_⟩
          replace hb1 := Below.old hbl6 hb1
          replace hb2 := Below.old hbl6 hb2
          replace hb3 := Below.old hbl6 hb3
          replace hB := Below.andThen hB hbl6
          refine At.move rfl rfl ?_
          refine At.extract rfl rfl rfl ?_
          refine At.extract rfl rfl rfl ?_
          refine At.assign rfl rfl ?_
          refine At.assign rfl rfl ?_
          refine At.ops0 ?_
          refine At.thenN ?_
          refine At.seq ?_
          refine At.region ?_
          refine At.load rfl (Ld.own ag33 (sz33.trans (congrArg some (ht).size.symm)) hb2) rfl ?_
          refine At.call en8 rfl rfl (term_any t m _ ((ht).keep hB) (hzt) (cell_keep hm hB) (tab_keep htab hB) (fun h => few_t hzt h hwtt)) (fun e w11 hR => ?_)
          obtain ⟨rfl, hbl7⟩ := hR
          refine ⟨_, rfl, ?_⟩
          replace hb1 := Below.old hbl7 hb1
          replace hb2 := Below.old hbl7 hb2
          replace hb3 := Below.old hbl7 hb3
          replace hB := Below.andThen hB hbl7
          refine At.move rfl rfl ?_
          refine At.extract rfl rfl rfl ?_
          refine At.extract rfl rfl rfl ?_
          refine At.assign rfl rfl ?_
          refine At.assign rfl rfl ?_
          refine At.ops0 ?_
          refine At.thenN ?_
          refine At.seq ?_
          refine At.seq ?_
          refine At.region ?_
          refine At.move rfl rfl ?_
          refine At.neI rfl rfl rfl ?_
          refine At.move rfl rfl ?_
          have hbb1 : ((!decide ((if writtenB p.body then (0 : Int) else 1) = 0))) = false := by rw [hwp]; decide
          refine At.set (d := 59) (u := .bool false) rfl (congrArg Value.bool hbb1) ?_
          refine At.yes rfl rfl rfl rfl ?_
          refine At.move rfl rfl ?_
          refine At.yes rfl rfl rfl rfl ?_
          refine At.neI rfl rfl rfl ?_
          refine At.pickF rfl rfl rfl ?_
          refine At.move rfl rfl ?_
          have hbb2 : ((!decide ((if writtenB t then (0 : Int) else 1) = 0))) = false := by rw [hwq]; decide
          refine At.set (d := 63) (u := .bool false) rfl (congrArg Value.bool hbb2) ?_
          refine At.yes rfl rfl rfl rfl ?_
          refine At.move rfl rfl ?_
          refine At.yes rfl rfl rfl rfl ?_
          refine At.lenB (l := (termL p.body)) rfl st9 rfl ?_
          refine At.yes rfl rfl rfl rfl ?_
          refine At.move rfl rfl ?_
          refine At.yes rfl rfl rfl rfl ?_
          refine At.lenB (l := (printL p)) rfl st9 rfl ?_
          refine At.yes rfl rfl rfl rfl ?_
          refine At.gtr rfl rfl rfl ?_
          refine At.pickF rfl rfl rfl ?_
          refine At.move rfl rfl ?_
          have hbb3 : (decide (((printL p).length : Int) < ((termL p.body).length : Int))) = false := decide_eq_false (by omega)
          refine At.set (d := 70) (u := .bool false) rfl (congrArg Value.bool hbb3) ?_
          refine At.yes rfl rfl rfl rfl ?_
          refine At.move rfl rfl ?_
          refine At.yes rfl rfl rfl rfl ?_
          refine At.lenB (l := (termL t)) rfl st9 rfl ?_
          refine At.yes rfl rfl rfl rfl ?_
          refine At.move rfl rfl ?_
          refine At.yes rfl rfl rfl rfl ?_
          refine At.lenB (l := (printL (mkPr p.ev p.dv p.effs p.dats t))) rfl st9 rfl ?_
          refine At.yes rfl rfl rfl rfl ?_
          refine At.gtr rfl rfl rfl ?_
          refine At.pickF rfl rfl rfl ?_
          refine At.ops0 ?_
          refine At.thenN ?_
          have hb : (decide (((printL (mkPr p.ev p.dv p.effs p.dats t)).length : Int) < ((termL t).length : Int))) = false := decide_eq_false (by omega)
          refine At.set (d := 76) (u := .bool false) rfl (congrArg Value.bool hb) ?_
          refine At.condF rfl ?_
          refine At.skip ?_
          refine At.thenN ?_
          refine At.seq ?_
          have hle1 : ((printL p).length - (termL p.body).length) ≤ (printL p).length := by omega
          have hle2 : ((printL (mkPr p.ev p.dv p.effs p.dats t)).length - (termL t).length) ≤ (printL (mkPr p.ev p.dv p.effs p.dats t)).length := by omega
          refine At.drawG (n := 19) mixed (by kernel_rfl) rfl (PanicOk.then PanicOk.body) ?_
          have hB := Below.drewB hB
          have hb1 : _ := (show w11.drew.heap[b1]? = _ from hb1)
          have hb2 : _ := (show w11.drew.heap[b2]? = _ from hb2)
          have hb3 : _ := (show w11.drew.heap[b3]? = _ from hb3)
          refine At.wpcS (i := 0) (d := 77) (.bool true) (by kernel_rfl) rfl rfl rfl (fun Lx => ?_) ?_
          · skip
            refine At.move rfl rfl ?_
            refine At.ops0 ?_
            exact fun a ha => ⟨ha, rfl⟩
          refine At.wpcS (i := 1) (d := 78) (.bool true) (by kernel_rfl) rfl rfl rfl (fun Lx => ?_) ?_
          · skip
            refine At.move rfl rfl ?_
            refine At.ops0 ?_
            exact fun a ha => ⟨ha, rfl⟩
          refine At.wpcS (i := 2) (d := 79) (.string (bs (printL p))) (by kernel_rfl) rfl rfl rfl (fun Lx => ?_) ?_
          · skip
            refine At.yes rfl rfl rfl rfl ?_
            refine At.move rfl rfl ?_
            refine At.ops0 ?_
            exact fun a ha => ⟨ha, rfl⟩
          refine At.wpcS (i := 3) (d := 80) (.string (bs (printL p))) (by kernel_rfl) rfl rfl rfl (fun Lx => ?_) ?_
          · skip
            refine At.yes rfl rfl rfl rfl ?_
            refine At.move rfl rfl ?_
            refine At.ops0 ?_
            exact fun a ha => ⟨ha, rfl⟩
          refine At.wpcS (i := 4) (d := 81) (.int .i64 ((printL p).length : Int)) (by kernel_rfl) rfl rfl rfl (fun Lx => ?_) ?_
          · skip
            refine At.yes rfl rfl rfl rfl ?_
            refine At.lenB (l := (printL p)) rfl st9 rfl ?_
            refine At.ops0 ?_
            exact fun a ha => ⟨ha, rfl⟩
          refine At.wpcS (i := 5) (d := 82) (.string (bs (termL p.body))) (by kernel_rfl) rfl rfl rfl (fun Lx => ?_) ?_
          · skip
            refine At.yes rfl rfl rfl rfl ?_
            refine At.move rfl rfl ?_
            refine At.ops0 ?_
            exact fun a ha => ⟨ha, rfl⟩
          refine At.wpcS (i := 6) (d := 83) (.int .i64 ((termL p.body).length : Int)) (by kernel_rfl) rfl rfl rfl (fun Lx => ?_) ?_
          · skip
            refine At.yes rfl rfl rfl rfl ?_
            refine At.lenB (l := (termL p.body)) rfl st9 rfl ?_
            refine At.ops0 ?_
            exact fun a ha => ⟨ha, rfl⟩
          refine At.wpcS (i := 7) (d := 84) (.int .i64 ((((printL p).length - (termL p.body).length) : Nat) : Int)) (by kernel_rfl) rfl rfl rfl (fun Lx => ?_) ?_
          · skip
            refine At.yes rfl rfl rfl rfl ?_
            refine At.subI rfl rfl rfl (by omega) ?_
            refine At.set (d := 84) (u := .int .i64 ((((printL p).length - (termL p.body).length) : Nat) : Int)) rfl (congrArg (Value.int .i64) (by omega)) ?_
            refine At.ops0 ?_
            exact fun a ha => ⟨Is.dup ha, rfl⟩
          refine At.wpcS (i := 8) (d := 85) (.string (bs ((printL p).take ((printL p).length - (termL p.body).length)))) (by kernel_rfl) rfl rfl rfl (fun Lx => ?_) ?_
          · skip
            refine At.yes rfl rfl rfl rfl ?_
            refine At.takeB (l := (printL p)) (h := ((printL p).length - (termL p.body).length)) rfl rfl st9 hle1 rfl ?_
            refine At.ops0 ?_
            exact fun a ha => ⟨ha, rfl⟩
          refine At.wpcS (i := 9) (d := 86) (.string (bs (printL (mkPr p.ev p.dv p.effs p.dats t)))) (by kernel_rfl) rfl rfl rfl (fun Lx => ?_) ?_
          · skip
            refine At.yes rfl rfl rfl rfl ?_
            refine At.move rfl rfl ?_
            refine At.ops0 ?_
            exact fun a ha => ⟨ha, rfl⟩
          refine At.wpcS (i := 10) (d := 87) (.string (bs (printL (mkPr p.ev p.dv p.effs p.dats t)))) (by kernel_rfl) rfl rfl rfl (fun Lx => ?_) ?_
          · skip
            refine At.yes rfl rfl rfl rfl ?_
            refine At.move rfl rfl ?_
            refine At.ops0 ?_
            exact fun a ha => ⟨ha, rfl⟩
          refine At.wpcS (i := 11) (d := 88) (.int .i64 ((printL (mkPr p.ev p.dv p.effs p.dats t)).length : Int)) (by kernel_rfl) rfl rfl rfl (fun Lx => ?_) ?_
          · skip
            refine At.yes rfl rfl rfl rfl ?_
            refine At.lenB (l := (printL (mkPr p.ev p.dv p.effs p.dats t))) rfl st9 rfl ?_
            refine At.ops0 ?_
            exact fun a ha => ⟨ha, rfl⟩
          refine At.wpcS (i := 12) (d := 89) (.string (bs (termL t))) (by kernel_rfl) rfl rfl rfl (fun Lx => ?_) ?_
          · skip
            refine At.yes rfl rfl rfl rfl ?_
            refine At.move rfl rfl ?_
            refine At.ops0 ?_
            exact fun a ha => ⟨ha, rfl⟩
          refine At.wpcS (i := 13) (d := 90) (.int .i64 ((termL t).length : Int)) (by kernel_rfl) rfl rfl rfl (fun Lx => ?_) ?_
          · skip
            refine At.yes rfl rfl rfl rfl ?_
            refine At.lenB (l := (termL t)) rfl st9 rfl ?_
            refine At.ops0 ?_
            exact fun a ha => ⟨ha, rfl⟩
          refine At.wpcS (i := 14) (d := 91) (.int .i64 ((((printL (mkPr p.ev p.dv p.effs p.dats t)).length - (termL t).length) : Nat) : Int)) (by kernel_rfl) rfl rfl rfl (fun Lx => ?_) ?_
          · skip
            refine At.yes rfl rfl rfl rfl ?_
            refine At.subI rfl rfl rfl (by omega) ?_
            refine At.set (d := 91) (u := .int .i64 ((((printL (mkPr p.ev p.dv p.effs p.dats t)).length - (termL t).length) : Nat) : Int)) rfl (congrArg (Value.int .i64) (by omega)) ?_
            refine At.ops0 ?_
            exact fun a ha => ⟨Is.dup ha, rfl⟩
          refine At.wpcS (i := 15) (d := 92) (.string (bs ((printL (mkPr p.ev p.dv p.effs p.dats t)).take ((printL (mkPr p.ev p.dv p.effs p.dats t)).length - (termL t).length)))) (by kernel_rfl) rfl rfl rfl (fun Lx => ?_) ?_
          · skip
            refine At.yes rfl rfl rfl rfl ?_
            refine At.takeB (l := (printL (mkPr p.ev p.dv p.effs p.dats t))) (h := ((printL (mkPr p.ev p.dv p.effs p.dats t)).length - (termL t).length)) rfl rfl st9 hle2 rfl ?_
            refine At.ops0 ?_
            exact fun a ha => ⟨ha, rfl⟩
          refine At.wpcS (i := 16) (d := 93) (.bool (decide (((printL p).take ((printL p).length - (termL p.body).length)) = ((printL (mkPr p.ev p.dv p.effs p.dats t)).take ((printL (mkPr p.ev p.dv p.effs p.dats t)).length - (termL t).length))))) (by kernel_rfl) rfl rfl rfl (fun Lx => ?_) ?_
          · skip
            refine At.yes rfl rfl rfl rfl ?_
            refine At.eqB' (a := ((printL p).take ((printL p).length - (termL p.body).length))) (b := ((printL (mkPr p.ev p.dv p.effs p.dats t)).take ((printL (mkPr p.ev p.dv p.effs p.dats t)).length - (termL t).length))) rfl rfl rfl ?_
            refine At.ops0 ?_
            exact fun a ha => ⟨ha, rfl⟩
          refine At.wpcS (i := 17) (d := 94) (.bool (decide (((printL p).take ((printL p).length - (termL p.body).length)) = ((printL (mkPr p.ev p.dv p.effs p.dats t)).take ((printL (mkPr p.ev p.dv p.effs p.dats t)).length - (termL t).length))))) (by kernel_rfl) rfl rfl rfl (fun Lx => ?_) ?_
          · skip
            refine At.pickT rfl rfl rfl ?_
            refine At.ops0 ?_
            exact fun a ha => ⟨ha, rfl⟩
          refine At.wpcE [18] (by kernel_rfl) (by kernel_rfl) (.cons [] rfl (by kernel_rfl) ?_ .nil)
          refine At.assign rfl rfl ?_
          refine At.ops0 ?_
          refine At.wpcN .nil ?_
          refine At.wpcZ ?_
          refine At.thenN ?_
          refine At.retc ?_
          refine At.doneR (ResV.tmp rfl ResV.nil) ?_
          exact ⟨congrArg Ending.returned (congrArg Value.bool (show (decide (((printL p).take ((printL p).length - (termL p.body).length)) = ((printL (mkPr p.ev p.dv p.effs p.dats t)).take ((printL (mkPr p.ev p.dv p.effs p.dats t)).length - (termL t).length)))) = true from decide_eq_true (by rw [hln, hlm, Nat.add_sub_cancel, Nat.add_sub_cancel, hpi, hqi, List.take_left, List.take_left]))), hB⟩
end Go.Proofs.YtkclecfbjfdfkaaDoor
