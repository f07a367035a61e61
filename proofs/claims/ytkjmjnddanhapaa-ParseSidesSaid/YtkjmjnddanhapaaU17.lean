/-
 The walk of value. Written by a program of ours.
-/
import Derived.Test.YtkjmjnddanhapaaN21
import Derived.Test.YtkjmjnddanhapaaU12
set_option linter.unusedVariables false
set_option linter.unusedSimpArgs false
namespace Go.Proofs.Ytkjmjnddanhapaa
open Go.RowKit
theorem en17 : entB Try.prog 17 = true := by kernel_rfl
theorem mul_id {x y : Int} (hx : 0 ≤ x ∧ x < 1000003) (hy : 0 ≤ y ∧ y < 1000003) : IntKind.i64.wrap (x * y) = x * y := by
 have h1 := Int.mul_nonneg hx.1 hy.1
 have h2 : x * y ≤ 1000003 * 1000003 := Int.mul_le_mul (by omega) (by omega) hy.1 (by decide)
 exact wrap64_id _ (by constructor <;> omega)
theorem value_num (t : Tm) (w : World) (ht : TmOk w t) (hk : t.k = 2) :
  Calls Try.prog 17 ([.agg t.cs] : List Value).toArray w fun e w' => e = .returned (.int .i64 t.n) ∧ Below w.heap.size w w' := by
 have hB := Below.refl w.heap.size w
 refine At.enter (N := 50) Try.func17 rfl rfl (by simp) [(0, .agg t.cs)] (by simp) ?_
 refine At.seq ?_
 refine At.region ?_
 refine At.box rfl rfl (fun b1 w1 F1 => ?_)
 have gb1 := F1.ge hB
 have hb1 : w1.heap[b1]? = some (.cells t.cs 35) := F1.new
 replace hB := F1.below' hB
 refine At.assign rfl rfl ?_
 refine At.ops0 ?_
 refine At.thenN ?_
 refine At.seq ?_
 refine At.seq ?_
 refine At.region ?_
 refine At.fieldAddr rfl fo35_0 rfl ?_
 refine At.load rfl (Ld.ownCell ag3 hb1 (ht).c0) rfl ?_
 refine At.eqI rfl rfl rfl ?_
 refine At.ops0 ?_
 refine At.thenN ?_
 have hb : (decide (t.k = 2)) = true := by rw [hk]; rfl
 refine At.set (d := 7) (u := .bool true) rfl (congrArg Value.bool hb) ?_
 refine At.condT rfl ?_
 refine At.seq ?_
 refine At.region ?_
 refine At.fieldAddr rfl fo35_4 rfl ?_
 refine At.load rfl (Ld.ownCell ag3 hb1 (ht).c4) rfl ?_
 refine At.assign rfl rfl ?_
 refine At.ops0 ?_
 refine At.thenN ?_
 refine At.retc ?_
 refine At.thenR ?_
 refine At.doneR (ResV.tmp rfl ResV.nil) ?_
 exact ⟨rfl, hB⟩
theorem value_add (t : Tm) (x y : Int) (w : World) (ht : TmOk w t) (hk : t.k = 10) (hkl : t.kids.length = 2) (hnm : t.nm = (⟨#[43]⟩ : ByteArray)) (hx : 0 ≤ x ∧ x < 1000003) (hy : 0 ≤ y ∧ y < 1000003) (ih0 : ∀ u, t.kids[0]? = some u → ∀ w, TmOk w u → Calls Try.prog 17 ([.agg u.cs] : List Value).toArray w fun e w' => e = .returned (.int .i64 x) ∧ Below w.heap.size w w') (ih1 : ∀ u, t.kids[1]? = some u → ∀ w, TmOk w u → Calls Try.prog 17 ([.agg u.cs] : List Value).toArray w fun e w' => e = .returned (.int .i64 y) ∧ Below w.heap.size w w') :
  Calls Try.prog 17 ([.agg t.cs] : List Value).toArray w fun e w' => e = .returned (.int .i64 ((x + y).tmod 1000003)) ∧ Below w.heap.size w w' := by
 have hB := Below.refl w.heap.size w
 refine At.enter (N := 50) Try.func17 rfl rfl (by simp) [(0, .agg t.cs)] (by simp) ?_
 refine At.seq ?_
 refine At.region ?_
 refine At.box rfl rfl (fun b1 w1 F1 => ?_)
 have gb1 := F1.ge hB
 have hb1 : w1.heap[b1]? = some (.cells t.cs 35) := F1.new
 replace hB := F1.below' hB
 refine At.assign rfl rfl ?_
 refine At.ops0 ?_
 refine At.thenN ?_
 refine At.seq ?_
 refine At.seq ?_
 refine At.region ?_
 refine At.fieldAddr rfl fo35_0 rfl ?_
 refine At.load rfl (Ld.ownCell ag3 hb1 (ht).c0) rfl ?_
 refine At.eqI rfl rfl rfl ?_
 refine At.ops0 ?_
 refine At.thenN ?_
 have hb : (decide (t.k = 2)) = false := by rw [hk]; rfl
 refine At.set (d := 7) (u := .bool false) rfl (congrArg Value.bool hb) ?_
 refine At.condF rfl ?_
 refine At.skip ?_
 refine At.thenN ?_
 refine At.seq ?_
 refine At.seq ?_
 refine At.region ?_
 refine At.fieldAddr rfl fo35_0 rfl ?_
 refine At.load rfl (Ld.ownCell ag3 hb1 (ht).c0) rfl ?_
 refine At.neI rfl rfl rfl ?_
 refine At.move rfl rfl ?_
 have hbb1 : ((!decide (t.k = 10))) = false := by simp [hk, hkl]
 refine At.set (d := 13) (u := .bool false) rfl (congrArg Value.bool hbb1) ?_
 refine At.yes rfl rfl rfl rfl ?_
 refine At.fieldAddr rfl fo35_5 rfl ?_
 refine At.yes rfl rfl rfl rfl ?_
 refine At.load rfl (Ld.ownCell ag26 hb1 (ht).c5) rfl ?_
 refine At.yes rfl rfl rfl rfl ?_
 refine At.lenSl rfl ((ht).kidsAt).okL el26 rfl ?_
 refine At.yes rfl rfl rfl rfl ?_
 refine At.neI rfl rfl rfl ?_
 refine At.pickF rfl rfl rfl ?_
 refine At.ops0 ?_
 refine At.thenN ?_
 have hb : ((!decide ((t.kids.length : Int) = 2))) = false := by simp [hk, hkl]
 refine At.set (d := 18) (u := .bool false) rfl (congrArg Value.bool hb) ?_
 refine At.condF rfl ?_
 refine At.skip ?_
 refine At.thenN ?_
 refine At.seq ?_
 refine At.region ?_
 refine At.fieldAddr rfl fo35_5 rfl ?_
 refine At.load rfl (Ld.ownCell ag26 hb1 (ht).c5) rfl ?_
 obtain ⟨u1, hu1⟩ := some_of_lt (l := t.kids) (i := 0) (by omega)
 refine At.indexAddr (i := 0) rfl rfl ((ht).kidsAt).okL (lt_of_some hu1) el26 sz35 rfl ?_
 refine At.load rfl (Ld.row ag35 (sz35.trans (congrArg some (((ht).kid hu1)).size.symm)) ((((ht).kidsAt).row hu1).keep hB)) rfl ?_
 refine At.call en17 rfl rfl (ih0 u1 hu1 _ ((((ht).kid hu1)).keep hB)) (fun e w2 hR => ?_)
 obtain ⟨rfl, hbl1⟩ := hR
 refine ⟨_, rfl, ?_⟩
 replace hb1 := Below.old hbl1 hb1
 replace hB := Below.andThen hB hbl1
 refine At.assign rfl rfl ?_
 refine At.ops0 ?_
 refine At.thenN ?_
 refine At.seq ?_
 refine At.region ?_
 refine At.fieldAddr rfl fo35_5 rfl ?_
 refine At.load rfl (Ld.ownCell ag26 hb1 (ht).c5) rfl ?_
 obtain ⟨u2, hu2⟩ := some_of_lt (l := t.kids) (i := 1) (by omega)
 refine At.indexAddr (i := 1) rfl rfl ((ht).kidsAt).okL (lt_of_some hu2) el26 sz35 rfl ?_
 refine At.load rfl (Ld.row ag35 (sz35.trans (congrArg some (((ht).kid hu2)).size.symm)) ((((ht).kidsAt).row hu2).keep hB)) rfl ?_
 refine At.call en17 rfl rfl (ih1 u2 hu2 _ ((((ht).kid hu2)).keep hB)) (fun e w3 hR => ?_)
 obtain ⟨rfl, hbl2⟩ := hR
 refine ⟨_, rfl, ?_⟩
 replace hb1 := Below.old hbl2 hb1
 replace hB := Below.andThen hB hbl2
 refine At.assign rfl rfl ?_
 refine At.ops0 ?_
 refine At.thenN ?_
 refine At.seq ?_
 refine At.seq ?_
 refine At.region ?_
 refine At.fieldAddr rfl fo35_2 rfl ?_
 refine At.load rfl (Ld.ownCell ag9 hb1 (ht).c2) rfl ?_
 refine At.ops0 ?_
 refine At.thenN ?_
 refine At.block ?_
 refine At.seq ?_
 refine At.region ?_
 refine At.eqS rfl rfl rfl ?_
 refine At.assign rfl rfl ?_
 refine At.ops0 ?_
 refine At.thenN ?_
 have hb : (decide (t.nm = (⟨#[43]⟩ : ByteArray))) = true := by rw [hnm]; rfl
 refine At.set (d := 31) (u := .bool true) rfl (congrArg Value.bool hb) ?_
 refine At.condT rfl ?_
 refine At.seq ?_
 refine At.region ?_
 refine At.move rfl rfl ?_
 refine At.move rfl rfl ?_
 refine At.addI rfl rfl rfl (by omega) ?_
 refine At.remI rfl rfl (by omega) rfl ?_
 refine At.assign rfl rfl ?_
 refine At.ops0 ?_
 refine At.thenN ?_
 refine At.retc ?_
 refine At.inR ?_
 refine At.thenR ?_
 refine At.doneR (ResV.tmp rfl ResV.nil) ?_
 exact ⟨rfl, hB⟩
theorem value_sub (t : Tm) (x y : Int) (w : World) (ht : TmOk w t) (hk : t.k = 10) (hkl : t.kids.length = 2) (hnm : t.nm = (⟨#[45]⟩ : ByteArray)) (hx : 0 ≤ x ∧ x < 1000003) (hy : 0 ≤ y ∧ y < 1000003) (ih0 : ∀ u, t.kids[0]? = some u → ∀ w, TmOk w u → Calls Try.prog 17 ([.agg u.cs] : List Value).toArray w fun e w' => e = .returned (.int .i64 x) ∧ Below w.heap.size w w') (ih1 : ∀ u, t.kids[1]? = some u → ∀ w, TmOk w u → Calls Try.prog 17 ([.agg u.cs] : List Value).toArray w fun e w' => e = .returned (.int .i64 y) ∧ Below w.heap.size w w') :
  Calls Try.prog 17 ([.agg t.cs] : List Value).toArray w fun e w' => e = .returned (.int .i64 ((x - y + 1000003).tmod 1000003)) ∧ Below w.heap.size w w' := by
 have hB := Below.refl w.heap.size w
 refine At.enter (N := 50) Try.func17 rfl rfl (by simp) [(0, .agg t.cs)] (by simp) ?_
 refine At.seq ?_
 refine At.region ?_
 refine At.box rfl rfl (fun b1 w1 F1 => ?_)
 have gb1 := F1.ge hB
 have hb1 : w1.heap[b1]? = some (.cells t.cs 35) := F1.new
 replace hB := F1.below' hB
 refine At.assign rfl rfl ?_
 refine At.ops0 ?_
 refine At.thenN ?_
 refine At.seq ?_
 refine At.seq ?_
 refine At.region ?_
 refine At.fieldAddr rfl fo35_0 rfl ?_
 refine At.load rfl (Ld.ownCell ag3 hb1 (ht).c0) rfl ?_
 refine At.eqI rfl rfl rfl ?_
 refine At.ops0 ?_
 refine At.thenN ?_
 have hb : (decide (t.k = 2)) = false := by rw [hk]; rfl
 refine At.set (d := 7) (u := .bool false) rfl (congrArg Value.bool hb) ?_
 refine At.condF rfl ?_
 refine At.skip ?_
 refine At.thenN ?_
 refine At.seq ?_
 refine At.seq ?_
 refine At.region ?_
 refine At.fieldAddr rfl fo35_0 rfl ?_
 refine At.load rfl (Ld.ownCell ag3 hb1 (ht).c0) rfl ?_
 refine At.neI rfl rfl rfl ?_
 refine At.move rfl rfl ?_
 have hbb1 : ((!decide (t.k = 10))) = false := by simp [hk, hkl]
 refine At.set (d := 13) (u := .bool false) rfl (congrArg Value.bool hbb1) ?_
 refine At.yes rfl rfl rfl rfl ?_
 refine At.fieldAddr rfl fo35_5 rfl ?_
 refine At.yes rfl rfl rfl rfl ?_
 refine At.load rfl (Ld.ownCell ag26 hb1 (ht).c5) rfl ?_
 refine At.yes rfl rfl rfl rfl ?_
 refine At.lenSl rfl ((ht).kidsAt).okL el26 rfl ?_
 refine At.yes rfl rfl rfl rfl ?_
 refine At.neI rfl rfl rfl ?_
 refine At.pickF rfl rfl rfl ?_
 refine At.ops0 ?_
 refine At.thenN ?_
 have hb : ((!decide ((t.kids.length : Int) = 2))) = false := by simp [hk, hkl]
 refine At.set (d := 18) (u := .bool false) rfl (congrArg Value.bool hb) ?_
 refine At.condF rfl ?_
 refine At.skip ?_
 refine At.thenN ?_
 refine At.seq ?_
 refine At.region ?_
 refine At.fieldAddr rfl fo35_5 rfl ?_
 refine At.load rfl (Ld.ownCell ag26 hb1 (ht).c5) rfl ?_
 obtain ⟨u1, hu1⟩ := some_of_lt (l := t.kids) (i := 0) (by omega)
 refine At.indexAddr (i := 0) rfl rfl ((ht).kidsAt).okL (lt_of_some hu1) el26 sz35 rfl ?_
 refine At.load rfl (Ld.row ag35 (sz35.trans (congrArg some (((ht).kid hu1)).size.symm)) ((((ht).kidsAt).row hu1).keep hB)) rfl ?_
 refine At.call en17 rfl rfl (ih0 u1 hu1 _ ((((ht).kid hu1)).keep hB)) (fun e w2 hR => ?_)
 obtain ⟨rfl, hbl1⟩ := hR
 refine ⟨_, rfl, ?_⟩
 replace hb1 := Below.old hbl1 hb1
 replace hB := Below.andThen hB hbl1
 refine At.assign rfl rfl ?_
 refine At.ops0 ?_
 refine At.thenN ?_
 refine At.seq ?_
 refine At.region ?_
 refine At.fieldAddr rfl fo35_5 rfl ?_
 refine At.load rfl (Ld.ownCell ag26 hb1 (ht).c5) rfl ?_
 obtain ⟨u2, hu2⟩ := some_of_lt (l := t.kids) (i := 1) (by omega)
 refine At.indexAddr (i := 1) rfl rfl ((ht).kidsAt).okL (lt_of_some hu2) el26 sz35 rfl ?_
 refine At.load rfl (Ld.row ag35 (sz35.trans (congrArg some (((ht).kid hu2)).size.symm)) ((((ht).kidsAt).row hu2).keep hB)) rfl ?_
 refine At.call en17 rfl rfl (ih1 u2 hu2 _ ((((ht).kid hu2)).keep hB)) (fun e w3 hR => ?_)
 obtain ⟨rfl, hbl2⟩ := hR
 refine ⟨_, rfl, ?_⟩
 replace hb1 := Below.old hbl2 hb1
 replace hB := Below.andThen hB hbl2
 refine At.assign rfl rfl ?_
 refine At.ops0 ?_
 refine At.thenN ?_
 refine At.seq ?_
 refine At.seq ?_
 refine At.region ?_
 refine At.fieldAddr rfl fo35_2 rfl ?_
 refine At.load rfl (Ld.ownCell ag9 hb1 (ht).c2) rfl ?_
 refine At.ops0 ?_
 refine At.thenN ?_
 refine At.block ?_
 refine At.seq ?_
 refine At.region ?_
 refine At.eqS rfl rfl rfl ?_
 refine At.assign rfl rfl ?_
 refine At.ops0 ?_
 refine At.thenN ?_
 have hb : (decide (t.nm = (⟨#[43]⟩ : ByteArray))) = false := by rw [hnm]; decide
 refine At.set (d := 31) (u := .bool false) rfl (congrArg Value.bool hb) ?_
 refine At.condF rfl ?_
 refine At.seq ?_
 refine At.region ?_
 refine At.eqS rfl rfl rfl ?_
 refine At.assign rfl rfl ?_
 refine At.ops0 ?_
 refine At.thenN ?_
 have hb : (decide (t.nm = (⟨#[45]⟩ : ByteArray))) = true := by rw [hnm]; rfl
 refine At.set (d := 37) (u := .bool true) rfl (congrArg Value.bool hb) ?_
 refine At.condT rfl ?_
 refine At.seq ?_
 refine At.region ?_
 refine At.move rfl rfl ?_
 refine At.move rfl rfl ?_
 refine At.subI rfl rfl rfl (by omega) ?_
 refine At.addI rfl rfl rfl (by omega) ?_
 refine At.remI rfl rfl (by omega) rfl ?_
 refine At.assign rfl rfl ?_
 refine At.ops0 ?_
 refine At.thenN ?_
 refine At.retc ?_
 refine At.inR ?_
 refine At.thenR ?_
 refine At.doneR (ResV.tmp rfl ResV.nil) ?_
 exact ⟨rfl, hB⟩
theorem value_mul (t : Tm) (x y : Int) (w : World) (ht : TmOk w t) (hk : t.k = 10) (hkl : t.kids.length = 2) (hnm : t.nm = (⟨#[42]⟩ : ByteArray)) (hx : 0 ≤ x ∧ x < 1000003) (hy : 0 ≤ y ∧ y < 1000003) (ih0 : ∀ u, t.kids[0]? = some u → ∀ w, TmOk w u → Calls Try.prog 17 ([.agg u.cs] : List Value).toArray w fun e w' => e = .returned (.int .i64 x) ∧ Below w.heap.size w w') (ih1 : ∀ u, t.kids[1]? = some u → ∀ w, TmOk w u → Calls Try.prog 17 ([.agg u.cs] : List Value).toArray w fun e w' => e = .returned (.int .i64 y) ∧ Below w.heap.size w w') :
  Calls Try.prog 17 ([.agg t.cs] : List Value).toArray w fun e w' => e = .returned (.int .i64 ((x * y).tmod 1000003)) ∧ Below w.heap.size w w' := by
 have hB := Below.refl w.heap.size w
 refine At.enter (N := 50) Try.func17 rfl rfl (by simp) [(0, .agg t.cs)] (by simp) ?_
 refine At.seq ?_
 refine At.region ?_
 refine At.box rfl rfl (fun b1 w1 F1 => ?_)
 have gb1 := F1.ge hB
 have hb1 : w1.heap[b1]? = some (.cells t.cs 35) := F1.new
 replace hB := F1.below' hB
 refine At.assign rfl rfl ?_
 refine At.ops0 ?_
 refine At.thenN ?_
 refine At.seq ?_
 refine At.seq ?_
 refine At.region ?_
 refine At.fieldAddr rfl fo35_0 rfl ?_
 refine At.load rfl (Ld.ownCell ag3 hb1 (ht).c0) rfl ?_
 refine At.eqI rfl rfl rfl ?_
 refine At.ops0 ?_
 refine At.thenN ?_
 have hb : (decide (t.k = 2)) = false := by rw [hk]; rfl
 refine At.set (d := 7) (u := .bool false) rfl (congrArg Value.bool hb) ?_
 refine At.condF rfl ?_
 refine At.skip ?_
 refine At.thenN ?_
 refine At.seq ?_
 refine At.seq ?_
 refine At.region ?_
 refine At.fieldAddr rfl fo35_0 rfl ?_
 refine At.load rfl (Ld.ownCell ag3 hb1 (ht).c0) rfl ?_
 refine At.neI rfl rfl rfl ?_
 refine At.move rfl rfl ?_
 have hbb1 : ((!decide (t.k = 10))) = false := by simp [hk, hkl]
 refine At.set (d := 13) (u := .bool false) rfl (congrArg Value.bool hbb1) ?_
 refine At.yes rfl rfl rfl rfl ?_
 refine At.fieldAddr rfl fo35_5 rfl ?_
 refine At.yes rfl rfl rfl rfl ?_
 refine At.load rfl (Ld.ownCell ag26 hb1 (ht).c5) rfl ?_
 refine At.yes rfl rfl rfl rfl ?_
 refine At.lenSl rfl ((ht).kidsAt).okL el26 rfl ?_
 refine At.yes rfl rfl rfl rfl ?_
 refine At.neI rfl rfl rfl ?_
 refine At.pickF rfl rfl rfl ?_
 refine At.ops0 ?_
 refine At.thenN ?_
 have hb : ((!decide ((t.kids.length : Int) = 2))) = false := by simp [hk, hkl]
 refine At.set (d := 18) (u := .bool false) rfl (congrArg Value.bool hb) ?_
 refine At.condF rfl ?_
 refine At.skip ?_
 refine At.thenN ?_
 refine At.seq ?_
 refine At.region ?_
 refine At.fieldAddr rfl fo35_5 rfl ?_
 refine At.load rfl (Ld.ownCell ag26 hb1 (ht).c5) rfl ?_
 obtain ⟨u1, hu1⟩ := some_of_lt (l := t.kids) (i := 0) (by omega)
 refine At.indexAddr (i := 0) rfl rfl ((ht).kidsAt).okL (lt_of_some hu1) el26 sz35 rfl ?_
 refine At.load rfl (Ld.row ag35 (sz35.trans (congrArg some (((ht).kid hu1)).size.symm)) ((((ht).kidsAt).row hu1).keep hB)) rfl ?_
 refine At.call en17 rfl rfl (ih0 u1 hu1 _ ((((ht).kid hu1)).keep hB)) (fun e w2 hR => ?_)
 obtain ⟨rfl, hbl1⟩ := hR
 refine ⟨_, rfl, ?_⟩
 replace hb1 := Below.old hbl1 hb1
 replace hB := Below.andThen hB hbl1
 refine At.assign rfl rfl ?_
 refine At.ops0 ?_
 refine At.thenN ?_
 refine At.seq ?_
 refine At.region ?_
 refine At.fieldAddr rfl fo35_5 rfl ?_
 refine At.load rfl (Ld.ownCell ag26 hb1 (ht).c5) rfl ?_
 obtain ⟨u2, hu2⟩ := some_of_lt (l := t.kids) (i := 1) (by omega)
 refine At.indexAddr (i := 1) rfl rfl ((ht).kidsAt).okL (lt_of_some hu2) el26 sz35 rfl ?_
 refine At.load rfl (Ld.row ag35 (sz35.trans (congrArg some (((ht).kid hu2)).size.symm)) ((((ht).kidsAt).row hu2).keep hB)) rfl ?_
 refine At.call en17 rfl rfl (ih1 u2 hu2 _ ((((ht).kid hu2)).keep hB)) (fun e w3 hR => ?_)
 obtain ⟨rfl, hbl2⟩ := hR
 refine ⟨_, rfl, ?_⟩
 replace hb1 := Below.old hbl2 hb1
 replace hB := Below.andThen hB hbl2
 refine At.assign rfl rfl ?_
 refine At.ops0 ?_
 refine At.thenN ?_
 refine At.seq ?_
 refine At.seq ?_
 refine At.region ?_
 refine At.fieldAddr rfl fo35_2 rfl ?_
 refine At.load rfl (Ld.ownCell ag9 hb1 (ht).c2) rfl ?_
 refine At.ops0 ?_
 refine At.thenN ?_
 refine At.block ?_
 refine At.seq ?_
 refine At.region ?_
 refine At.eqS rfl rfl rfl ?_
 refine At.assign rfl rfl ?_
 refine At.ops0 ?_
 refine At.thenN ?_
 have hb : (decide (t.nm = (⟨#[43]⟩ : ByteArray))) = false := by rw [hnm]; decide
 refine At.set (d := 31) (u := .bool false) rfl (congrArg Value.bool hb) ?_
 refine At.condF rfl ?_
 refine At.seq ?_
 refine At.region ?_
 refine At.eqS rfl rfl rfl ?_
 refine At.assign rfl rfl ?_
 refine At.ops0 ?_
 refine At.thenN ?_
 have hb : (decide (t.nm = (⟨#[45]⟩ : ByteArray))) = false := by rw [hnm]; decide
 refine At.set (d := 37) (u := .bool false) rfl (congrArg Value.bool hb) ?_
 refine At.condF rfl ?_
 refine At.seq ?_
 refine At.region ?_
 refine At.eqS rfl rfl rfl ?_
 refine At.assign rfl rfl ?_
 refine At.ops0 ?_
 refine At.thenN ?_
 have hb : (decide (t.nm = (⟨#[42]⟩ : ByteArray))) = true := by rw [hnm]; rfl
 refine At.set (d := 44) (u := .bool true) rfl (congrArg Value.bool hb) ?_
 refine At.condT rfl ?_
 refine At.seq ?_
 refine At.region ?_
 refine At.move rfl rfl ?_
 refine At.move rfl rfl ?_
 refine At.mul rfl rfl rfl ?_
 refine At.set (d := 48) (u := .int .i64 (x * y)) rfl (congrArg (Value.int .i64) (mul_id hx hy)) ?_
 refine At.remI rfl rfl (by omega) rfl ?_
 refine At.assign rfl rfl ?_
 refine At.ops0 ?_
 refine At.thenN ?_
 refine At.retc ?_
 refine At.inR ?_
 refine At.thenR ?_
 refine At.doneR (ResV.tmp rfl ResV.nil) ?_
 exact ⟨rfl, hB⟩
theorem value_any {x : ST} {m : Int} (h : Vl x m) : ∀ (t : Tm) (w : World), shT t = x → TmOk w t → Calls Try.prog 17 ([.agg t.cs] : List Value).toArray w fun e w' => e = .returned (.int .i64 m) ∧ Below w.heap.size w w' := by
 induction h with
 | num a n h =>
  intro t w hs ht
  obtain ⟨h1, _, _, _, h5, _⟩ := shT_k t hs
  have := value_num t w ht h1
  rwa [h5] at this
 | @add x y m n a hx hy i1 i2 =>
  intro t w hs ht
  obtain ⟨h1, _, h3, _, _, h6, _⟩ := shT_k t hs
  exact value_add t m n w ht h1 (by have := congrArg List.length h6; simpa using this) h3 hx.range hy.range (fun u hu w hw => i1 u w (Option.some.inj (map_at h6 hu)).symm hw) (fun u hu w hw => i2 u w (Option.some.inj (map_at h6 hu)).symm hw)
 | @sub x y m n a hx hy i1 i2 =>
  intro t w hs ht
  obtain ⟨h1, _, h3, _, _, h6, _⟩ := shT_k t hs
  exact value_sub t m n w ht h1 (by have := congrArg List.length h6; simpa using this) h3 hx.range hy.range (fun u hu w hw => i1 u w (Option.some.inj (map_at h6 hu)).symm hw) (fun u hu w hw => i2 u w (Option.some.inj (map_at h6 hu)).symm hw)
 | @mul x y m n a hx hy i1 i2 =>
  intro t w hs ht
  obtain ⟨h1, _, h3, _, _, h6, _⟩ := shT_k t hs
  exact value_mul t m n w ht h1 (by have := congrArg List.length h6; simpa using this) h3 hx.range hy.range (fun u hu w hw => i1 u w (Option.some.inj (map_at h6 hu)).symm hw) (fun u hu w hw => i2 u w (Option.some.inj (map_at h6 hu)).symm hw)
end Go.Proofs.Ytkjmjnddanhapaa
