/-
  The walks of what a type in a declaration, a handler's and a match's arms must be: what each call does, for every argument that lies so in memory. Written by a program of ours.
-/
import Derived.Test.YtkclfcdppnlkbaaW2
import Derived.Test.YtkclfcdppnlkbaaS2
set_option linter.unusedVariables false
set_option linter.unusedSimpArgs false
namespace Go.Proofs.Ytkclfcdppnlkbaa
open Go.RowKit
theorem ag25 : aggB Try.prog 25 = some false := by kernel_rfl
theorem ag26 : aggB Try.prog 26 = some false := by kernel_rfl
theorem ag3 : aggB Try.prog 3 = some false := by kernel_rfl
theorem ag31 : aggB Try.prog 31 = some true := by kernel_rfl
theorem ag35 : aggB Try.prog 35 = some true := by kernel_rfl
theorem ag71 : aggB Try.prog 71 = some true := by kernel_rfl
theorem el25 : elemB Try.prog 25 = some 71 := by kernel_rfl
theorem el26 : elemB Try.prog 26 = some 31 := by kernel_rfl
theorem en16 : entB Try.prog 16 = true := by kernel_rfl
theorem en18 : entB Try.prog 18 = true := by kernel_rfl
theorem en51 : entB Try.prog 51 = true := by kernel_rfl
theorem en52 : entB Try.prog 52 = true := by kernel_rfl
theorem en60 : entB Try.prog 60 = true := by kernel_rfl
theorem en61 : entB Try.prog 61 = true := by kernel_rfl
theorem en62 : entB Try.prog 62 = true := by kernel_rfl
theorem en63 : entB Try.prog 63 = true := by kernel_rfl
theorem en67 : entB Try.prog 67 = true := by kernel_rfl
theorem fo29_0 : fieldB Try.prog 29 0 = some (0, 1) := by kernel_rfl
theorem fo29_1 : fieldB Try.prog 29 1 = some (1, 1) := by kernel_rfl
theorem fo31_0 : fieldB Try.prog 31 0 = some (0, 1) := by kernel_rfl
theorem fo31_1 : fieldB Try.prog 31 1 = some (1, 1) := by kernel_rfl
theorem fo31_2 : fieldB Try.prog 31 2 = some (2, 1) := by kernel_rfl
theorem fo31_3 : fieldB Try.prog 31 3 = some (3, 1) := by kernel_rfl
theorem fo31_4 : fieldB Try.prog 31 4 = some (4, 2) := by kernel_rfl
theorem fo33_2 : fieldB Try.prog 33 2 = some (2, 1) := by kernel_rfl
theorem fo33_6 : fieldB Try.prog 33 6 = some (6, 1) := by kernel_rfl
theorem fo52_0 : fieldB Try.prog 52 0 = some (0, 1) := by kernel_rfl
theorem fo54_1 : fieldB Try.prog 54 1 = some (1, 1) := by kernel_rfl
theorem fo71_0 : fieldB Try.prog 71 0 = some (0, 1) := by kernel_rfl
theorem fo71_1 : fieldB Try.prog 71 1 = some (1, 1) := by kernel_rfl
theorem fo75_0 : fieldB Try.prog 75 0 = some (0, 23) := by kernel_rfl
theorem sd87 : sizedB Try.prog 87 = true := by kernel_rfl
theorem sz31 : sizeB Try.prog 31 = some 6 := by kernel_rfl
theorem sz35 : sizeB Try.prog 35 = some 23 := by kernel_rfl
theorem sz71 : sizeB Try.prog 71 = some 23 := by kernel_rfl
theorem sz87 : sizeB Try.prog 87 = some 1 := by kernel_rfl
theorem ze31 : zeroB Try.prog 31 = some (.agg #[.int .i64 0, .string (⟨#[]⟩ : ByteArray), .int .i64 0, (.slice none 0 0), (.slice none 0 0), .int .i64 0]) := by kernel_rfl
theorem ze71 : zeroB Try.prog 71 = some (.agg #[.string (⟨#[]⟩ : ByteArray), (.slice none 0 0), .int .i64 0, .int .i64 0, .string (⟨#[]⟩ : ByteArray), .string (⟨#[]⟩ : ByteArray), .int .i64 0, (.slice none 0 0), (.slice none 0 0), .int .i64 0, .string (⟨#[]⟩ : ByteArray), .int .i64 0, (.slice none 0 0), (.slice none 0 0), .int .i64 0, (.slice none 0 0), .int .i64 0, .int .i64 0, .string (⟨#[]⟩ : ByteArray), .int .i64 0, (.slice none 0 0), (.slice none 0 0), .int .i64 0]) := by kernel_rfl
theorem ze87 : zeroB Try.prog 87 = some (.agg #[(.slice none 0 0)]) := by kernel_rfl
theorem containsTwice_any (vl : Value) (l : List ByteArray) (b0 : Nat) (w0 : World) (w : World) (hB0 : Below w0.heap.size w0 w) (hSge : ∀ k, k = b0 → w0.heap.size ≤ k) (hv : StrsAt w0 vl l) (hb0 : w.heap[b0]? = some (.cells #[.slice none 0 0] 87)) (hl : l.length ≤ 4398046511104) :
    Calls Try.prog 63 ([vl, .func (.func 64) #[] #[.pointer (some ⟨b0, 0, none⟩)]] : List Value).toArray w fun e w' => e = .returned (.bool (twiceFrom [] l)) ∧ Fr (fun k => k = b0) w w' := by
  have hR := Fr.refl (fun k => k = b0) w
  have hB := hB0
  refine At.enter (N := 9) Try.func63 rfl rfl (by simp) [(0, vl), (1, .func (.func 64) #[] #[.pointer (some ⟨b0, 0, none⟩)])] (by simp) ?_
  refine At.seq ?_
  refine At.region ?_
  refine At.assign rfl rfl ?_
  refine At.ops0 ?_
  refine At.thenN ?_
  refine At.seq ?_
  refine At.region ?_
  refine At.move rfl rfl ?_
  refine At.move rfl rfl ?_
  refine At.call en67 rfl rfl (indexTwice_any vl l b0 w0 _ hB0 hSge hv hb0 hl) (fun e w1 hR' => ?_)
  obtain ⟨r1, rfl, hq1, hF1⟩ := hR'
  refine ⟨_, rfl, ?_⟩
  clear hb0
  replace hR := Fr.then hR hF1 (fun k hk => .inl hk)
  replace hB := Fr.below hR hB0 hB0.size hSge
  refine At.geq rfl rfl rfl ?_
  refine At.assign rfl rfl ?_
  refine At.ops0 ?_
  refine At.thenN ?_
  refine At.retc ?_
  refine At.doneR (ResV.tmp rfl ResV.nil) ?_
  exact ⟨by rw [hq1]; rfl, hR⟩
theorem armOk_any (k : Cn) (a : Am) (w : World) (hk : CnOk w k) (ha : AmOk w a) (hl : a.vars.length ≤ 4398046511104) :
    Calls Try.prog 62 ([.agg k.cs, .agg a.cs] : List Value).toArray w fun e w' => e = .returned (.bool (armOk k a)) ∧ Below w.heap.size w w' := by
  have hB := Below.refl w.heap.size w
  refine At.enter (N := 30) Try.func62 rfl rfl (by simp) [(0, .agg k.cs), (1, .agg a.cs)] (by simp) ?_
  refine At.seq ?_
  refine At.region ?_
  refine At.box rfl rfl (fun b1 w1 F1 => ?_)
  have gb1 := F1.ge hB
  have hb1 : w1.heap[b1]? = some (.cells k.cs 54) := F1.new
  replace hB := F1.below' hB
  refine At.box rfl rfl (fun b2 w2 F2 => ?_)
  have n_b1_b2 : b1 ≠ b2 := Nat.ne_of_lt (F2.lt hb1)
  have gb2 := F2.ge hB
  replace hb1 := F2.old hb1
  have hb2 : w2.heap[b2]? = some (.cells a.cs 71) := F2.new
  replace hB := F2.below' hB
  refine At.assign rfl rfl ?_
  refine At.ops0 ?_
  refine At.thenN ?_
  refine At.seq ?_
  refine At.region ?_
  refine At.build (C := #[(.slice none 0 0)]) sd87 ze87 rfl (Bld.nil _) rfl ?_
  refine At.alloc ze87 rfl (fun b3 w3 F3 => ?_)
  have n_b1_b3 : b1 ≠ b3 := Nat.ne_of_lt (F3.lt hb1)
  have n_b2_b3 : b2 ≠ b3 := Nat.ne_of_lt (F3.lt hb2)
  have gb3 := F3.ge hB
  replace hb1 := F3.old hb1
  replace hb2 := F3.old hb2
  have hb3 : w3.heap[b3]? = some (.cells #[(.slice none 0 0)] 87) := F3.new
  replace hB := F3.below' hB
  refine At.storeAll rfl rfl hb3 sz87 rfl (by simp [Value.oneCell', ((SlOk.nil)).one]) (fun w4 S1 => ?_)
  replace hb1 := S1.other hb1 n_b1_b3
  replace hb2 := S1.other hb2 n_b2_b3
  replace hb3 : w4.heap[b3]? = some (.cells #[(.slice none 0 0)] 87) := S1.new
  replace hB := S1.below' hB gb3
  refine At.ops0 ?_
  refine At.thenN ?_
  refine At.seq ?_
  refine At.region ?_
  refine At.fieldAddr rfl fo71_1 rfl ?_
  refine At.load rfl (Ld.ownCell ag27 hb2 (ha).c1) rfl ?_
  refine At.makeFunc rfl rfl ?_
  refine At.call en63 rfl rfl (containsTwice_any a.vv a.vars b3 w _ hB (fun k hk => hk ▸ gb3) (ha).varsAt hb3 hl) (fun e w5 hR' => ?_)
  obtain ⟨rfl, hF1⟩ := hR'
  refine ⟨_, rfl, ?_⟩
  replace hb1 := hF1.old _ _ n_b1_b3 hb1
  replace hb2 := hF1.old _ _ n_b2_b3 hb2
  clear hb3
  replace hB := hF1.below hB hB.size (fun k hk => hk ▸ gb3)
  refine At.assign rfl rfl ?_
  refine At.ops0 ?_
  refine At.thenN ?_
  refine At.seq ?_
  refine At.region ?_
  refine At.fieldAddr rfl fo54_0 rfl ?_
  refine At.load rfl (Ld.ownCell ag9 hb1 (hk).c0) rfl ?_
  refine At.fieldAddr rfl fo71_0 rfl ?_
  refine At.load rfl (Ld.ownCell ag9 hb2 (ha).c0) rfl ?_
  refine At.eqS rfl rfl rfl ?_
  refine At.move rfl rfl ?_
  refine At.cases (decide (k.nm = a.nm)) (fun hg1 => ?_) (fun hg1 => ?_)
  · skip
    refine At.set (d := 17) (u := .bool true) rfl (congrArg Value.bool hg1) ?_
    have hg1' := of_decide_eq_true hg1
    refine At.yes rfl rfl rfl rfl ?_
    refine At.fieldAddr rfl fo54_1 rfl ?_
    refine At.yes rfl rfl rfl rfl ?_
    refine At.load rfl (Ld.ownCell ag26 hb1 (hk).c1) rfl ?_
    refine At.yes rfl rfl rfl rfl ?_
    refine At.lenSl rfl ((hk).fieldsAt).okL el26 rfl ?_
    refine At.yes rfl rfl rfl rfl ?_
    refine At.fieldAddr rfl fo71_1 rfl ?_
    refine At.yes rfl rfl rfl rfl ?_
    refine At.load rfl (Ld.ownCell ag27 hb2 (ha).c1) rfl ?_
    refine At.yes rfl rfl rfl rfl ?_
    refine At.lenSl rfl ((ha).varsAt).ok el27 rfl ?_
    refine At.yes rfl rfl rfl rfl ?_
    refine At.eqI rfl rfl rfl ?_
    refine At.pickT rfl rfl rfl ?_
    refine At.move rfl rfl ?_
    refine At.cases (decide ((k.fields.length : Int) = (a.vars.length : Int))) (fun hg2 => ?_) (fun hg2 => ?_)
    · skip
      refine At.set (d := 26) (u := .bool true) rfl (congrArg Value.bool hg2) ?_
      have hg2' := of_decide_eq_true hg2
      refine At.yes rfl rfl rfl rfl ?_
      refine At.move rfl rfl ?_
      refine At.yes rfl rfl rfl rfl ?_
      refine At.not rfl rfl ?_
      refine At.pickT rfl rfl rfl ?_
      refine At.assign rfl rfl ?_
      refine At.ops0 ?_
      refine At.thenN ?_
      refine At.retc ?_
      refine At.doneR (ResV.tmp rfl ResV.nil) ?_
      exact ⟨congrArg Ending.returned (congrArg Value.bool (by simp only [armOk, hg1, hg2, Bool.false_and, Bool.true_and, Bool.not_false, Bool.not_true])), hB⟩
    · skip
      refine At.set (d := 26) (u := .bool false) rfl (congrArg Value.bool hg2) ?_
      have hg2' := of_decide_eq_false hg2
      refine At.no rfl rfl rfl rfl rfl rfl rfl ?_
      refine At.no rfl rfl rfl rfl rfl rfl rfl ?_
      refine At.pickF rfl rfl rfl ?_
      refine At.assign rfl rfl ?_
      refine At.ops0 ?_
      refine At.thenN ?_
      refine At.retc ?_
      refine At.doneR (ResV.tmp rfl ResV.nil) ?_
      exact ⟨congrArg Ending.returned (congrArg Value.bool (by simp only [armOk, hg1, hg2, Bool.false_and, Bool.true_and, Bool.not_false, Bool.not_true])), hB⟩
  · skip
    refine At.set (d := 17) (u := .bool false) rfl (congrArg Value.bool hg1) ?_
    have hg1' := of_decide_eq_false hg1
    refine At.no rfl rfl rfl rfl rfl rfl rfl ?_
    refine At.no rfl rfl rfl rfl rfl rfl rfl ?_
    refine At.no rfl rfl rfl rfl rfl rfl rfl ?_
    refine At.no rfl rfl rfl rfl rfl rfl rfl ?_
    refine At.no rfl rfl rfl rfl rfl rfl rfl ?_
    refine At.no rfl rfl rfl rfl rfl rfl rfl ?_
    refine At.no rfl rfl rfl rfl rfl rfl rfl ?_
    refine At.pickF rfl rfl rfl ?_
    refine At.move rfl rfl ?_
    refine At.no rfl rfl rfl rfl rfl rfl rfl ?_
    refine At.no rfl rfl rfl rfl rfl rfl rfl ?_
    refine At.pickF rfl rfl rfl ?_
    refine At.assign rfl rfl ?_
    refine At.ops0 ?_
    refine At.thenN ?_
    refine At.retc ?_
    refine At.doneR (ResV.tmp rfl ResV.nil) ?_
    exact ⟨congrArg Ending.returned (congrArg Value.bool (by simp only [armOk, hg1, Bool.false_and, Bool.true_and, Bool.not_false, Bool.not_true])), hB⟩
theorem equalArms_any (v : Value) (l : List Cn) (u : Value) (m : List Am) (w : World) (hv : RowsAt w v 2 (l.map Cn.cs)) (hE : ∀ u ∈ l, CnOk w u) (hu : RowsAt w u 23 (m.map Am.cs)) (hA : ∀ u ∈ m, AmOk w u) (hl : l.length ≤ 4398046511104) (hvl : ∀ a ∈ m, a.vars.length ≤ 4398046511104) :
    Calls Try.prog 61 ([v, u, .func (.func 62) #[] #[]] : List Value).toArray w fun e w' => e = .returned (.bool (eq2 armOk l m)) ∧ Below w.heap.size w w' := by
  have hB := Below.refl w.heap.size w
  refine At.enter (N := 32) Try.func61 rfl rfl (by simp) [(0, v), (1, u), (2, .func (.func 62) #[] #[])] (by simp) ?_
  refine At.seq ?_
  refine At.region ?_
  refine At.assign rfl rfl ?_
  refine At.ops0 ?_
  refine At.thenN ?_
  refine At.seq ?_
  refine At.seq ?_
  refine At.region ?_
  refine At.move rfl rfl ?_
  refine At.lenSl rfl hv.okL el50 rfl ?_
  refine At.move rfl rfl ?_
  refine At.lenSl rfl hu.okL el25 rfl ?_
  refine At.neI rfl rfl rfl ?_
  refine At.ops0 ?_
  refine At.thenN ?_
  refine At.cond (b := (!decide ((l.length : Int) = (m.length : Int)))) rfl (fun hc1 => ?_) (fun hc1 => ?_)
  · skip
    have hc1' := hc1; simp only [Bool.not_eq_true', Bool.not_eq_false', decide_eq_true_eq, decide_eq_false_iff_not] at hc1'
    refine At.seq ?_
    refine At.region ?_
    refine At.assign rfl rfl ?_
    refine At.ops0 ?_
    refine At.thenN ?_
    refine At.retc ?_
    refine At.thenR ?_
    refine At.doneR (ResV.tmp rfl ResV.nil) ?_
    exact ⟨congrArg Ending.returned (congrArg Value.bool (eq2_ne (by intro h; simp [h] at hc1)).symm), hB⟩
  · skip
    have hc1' := hc1; simp only [Bool.not_eq_true', Bool.not_eq_false', decide_eq_true_eq, decide_eq_false_iff_not] at hc1'
    refine At.skip ?_
    refine At.thenN ?_
    refine At.seq ?_
    refine At.seq ?_
    refine At.region ?_
    refine At.move rfl rfl ?_
    refine At.lenSl rfl hv.okL el50 rfl ?_
    refine At.move rfl rfl ?_
    refine At.ops0 ?_
    refine At.thenN ?_
    refine At.block ?_
    refine At.loop (Nat) (fun k => [(1, u), (2, .func (.func 62) #[] #[]), (15, v), (16, .int .i64 (l.length : Int)), (17, .int .i64 (k : Int))]) (fun k w1 => Below w.heap.size w w1 ∧ (k ≤ l.length) ∧ (eq2 armOk (l.drop k) (m.drop k) = eq2 armOk l m)) (fun k => l.length - k) (0 : Nat) (Sub.cons rfl (Sub.cons rfl (Sub.cons rfl (Sub.cons rfl (Sub.cons rfl Sub.nil))))) ⟨hB, (Nat.zero_le _), (rfl)⟩ (fun k w1 hI => ?_)
    clear hB
    obtain ⟨hB, hkb, hn⟩ := hI
    show At _ _ [(1, u), (2, .func (.func 62) #[] #[]), (15, v), (16, .int .i64 (l.length : Int)), (17, .int .i64 (k : Int))] _ _
    refine At.seq ?_
    refine At.region ?_
    refine At.lss rfl rfl rfl ?_
    refine At.ops0 ?_
    refine At.thenN ?_
    refine At.seq ?_
    refine At.cond (b := decide ((k : Int) < (l.length : Int))) rfl (fun hc2 => ?_) (fun hc2 => ?_)
    · skip
      have hc2' := of_decide_eq_true hc2
      refine At.skip ?_
      refine At.thenN ?_
      refine At.seq ?_
      refine At.block ?_
      refine At.seq ?_
      refine At.region ?_
      refine At.move rfl rfl ?_
      obtain ⟨u1, hu1⟩ := some_of_lt (l := l) (i := k) (by omega)
      refine At.indexAddr (i := k) rfl rfl hv.okL (lt_of_some hu1) el50 sz54 rfl ?_
      refine At.load rfl (Ld.row ag54 (sz54.trans (congrArg some ((hE u1 (List.mem_of_getElem? hu1))).size.symm)) (((hv).row hu1).keep hB)) rfl ?_
      refine At.alloc ze54 rfl (fun b1 w2 F1 => ?_)
      have gb1 := F1.ge hB
      have hb1 : w2.heap[b1]? = some (.cells #[.string (⟨#[]⟩ : ByteArray), (.slice none 0 0)] 54) := F1.new
      replace hB := F1.below' hB
      refine At.assign rfl rfl ?_
      refine At.storeAll rfl rfl hb1 (sz54.trans (congrArg some ((hE u1 (List.mem_of_getElem? hu1))).size.symm)) ((hE u1 (List.mem_of_getElem? hu1))).size.symm ((hE u1 (List.mem_of_getElem? hu1))).one (fun w3 S1 => ?_)
      replace hb1 : w3.heap[b1]? = some (.cells u1.cs 54) := S1.new
      replace hB := S1.below' hB gb1
      refine At.ops0 ?_
      refine At.thenN ?_
      refine At.seq ?_
      refine At.region ?_
      refine At.move rfl rfl ?_
      refine At.move rfl rfl ?_
      obtain ⟨u2, hu2⟩ := some_of_lt (l := m) (i := k) (by omega)
      refine At.indexAddr (i := k) rfl rfl hu.okL (lt_of_some hu2) el25 sz71 rfl ?_
      refine At.load rfl (Ld.row ag71 (sz71.trans (congrArg some ((hA u2 (List.mem_of_getElem? hu2))).size.symm)) (((hu).row hu2).keep hB)) rfl ?_
      refine At.alloc ze71 rfl (fun b2 w4 F2 => ?_)
      have n_b1_b2 : b1 ≠ b2 := Nat.ne_of_lt (F2.lt hb1)
      have gb2 := F2.ge hB
      replace hb1 := F2.old hb1
      have hb2 : w4.heap[b2]? = some (.cells #[.string (⟨#[]⟩ : ByteArray), (.slice none 0 0), .int .i64 0, .int .i64 0, .string (⟨#[]⟩ : ByteArray), .string (⟨#[]⟩ : ByteArray), .int .i64 0, (.slice none 0 0), (.slice none 0 0), .int .i64 0, .string (⟨#[]⟩ : ByteArray), .int .i64 0, (.slice none 0 0), (.slice none 0 0), .int .i64 0, (.slice none 0 0), .int .i64 0, .int .i64 0, .string (⟨#[]⟩ : ByteArray), .int .i64 0, (.slice none 0 0), (.slice none 0 0), .int .i64 0] 71) := F2.new
      replace hB := F2.below' hB
      refine At.storeAll rfl rfl hb2 (sz71.trans (congrArg some ((hA u2 (List.mem_of_getElem? hu2))).size.symm)) ((hA u2 (List.mem_of_getElem? hu2))).size.symm ((hA u2 (List.mem_of_getElem? hu2))).one (fun w5 S2 => ?_)
      replace hb1 := S2.other hb1 n_b1_b2
      replace hb2 : w5.heap[b2]? = some (.cells u2.cs 71) := S2.new
      replace hB := S2.below' hB gb2
      refine At.ops0 ?_
      refine At.thenN ?_
      refine At.seq ?_
      refine At.region ?_
      refine At.move rfl rfl ?_
      refine At.load rfl (Ld.own ag54 (sz54.trans (congrArg some ((hE u1 (List.mem_of_getElem? hu1))).size.symm)) hb1) rfl ?_
      refine At.load rfl (Ld.own ag71 (sz71.trans (congrArg some ((hA u2 (List.mem_of_getElem? hu2))).size.symm)) hb2) rfl ?_
      refine At.callV rfl en62 rfl rfl (armOk_any u1 u2 _ (((hE u1 (List.mem_of_getElem? hu1))).keep hB) (((hA u2 (List.mem_of_getElem? hu2))).keep hB) (hvl _ (List.mem_of_getElem? hu2))) (fun e w6 hR => ?_)
      obtain ⟨rfl, hbl1⟩ := hR
      refine ⟨_, rfl, ?_⟩
      replace hb1 := Below.old hbl1 hb1
      replace hb2 := Below.old hbl1 hb2
      replace hB := Below.andThen hB hbl1
      refine At.not rfl rfl ?_
      refine At.ops0 ?_
      refine At.thenN ?_
      refine At.cond (b := (!(armOk u1 u2))) rfl (fun hc3 => ?_) (fun hc3 => ?_)
      · skip
        refine At.seq ?_
        refine At.region ?_
        refine At.assign rfl rfl ?_
        refine At.ops0 ?_
        refine At.thenN ?_
        refine At.retc ?_
        refine At.inR ?_
        refine At.thenR ?_
        refine At.thenR ?_
        refine At.inR ?_
        refine At.thenR ?_
        refine At.doneR (ResV.tmp rfl ResV.nil) ?_
        have hc3n : armOk u1 u2 = false := by simpa using hc3
        exact ⟨congrArg Ending.returned (congrArg Value.bool (by rw [← hn, eq2_step hu1 hu2, hc3n]; rfl)), hB⟩
      · skip
        refine At.skip ?_
        refine At.inN ?_
        refine At.thenN ?_
        refine At.region ?_
        refine At.addI rfl rfl rfl (by omega) ?_
        refine At.move rfl rfl ?_
        refine At.ops0 ?_
        refine At.thenN ?_
        exact fun a ha => ⟨(k + 1), ha.sub (Sub.cons rfl (Sub.cons rfl (Sub.cons rfl (Sub.cons rfl (Sub.cons rfl Sub.nil))))), ⟨hB, (by omega), (by rw [← hn, eq2_step hu1 hu2, show armOk u1 u2 = true by simpa using hc3]; rfl)⟩, by first | omega | (dsimp only; omega)⟩
    · skip
      have hc2' := of_decide_eq_false hc2
      refine At.exit ?_
      refine At.thenE ?_
      refine At.thenE ?_
      refine At.inE ?_
      refine At.thenN ?_
      refine At.seq ?_
      refine At.region ?_
      refine At.assign rfl rfl ?_
      refine At.ops0 ?_
      refine At.thenN ?_
      refine At.retc ?_
      refine At.doneR (ResV.tmp rfl ResV.nil) ?_
      exact ⟨congrArg Ending.returned (congrArg Value.bool (by rw [← hn, List.drop_eq_nil_of_le (by omega), List.drop_eq_nil_of_le (by omega)]; rfl)), hB⟩
theorem match_any (p : Pr) (t : Tm) (w : World) (hp : PrOk w p) (hz : PrSz p) (ht : TmOk w t) (hvl : ∀ a ∈ t.arms, a.vars.length ≤ 4398046511104) :
    Calls Try.prog 54 ([.agg p.cs, .agg t.cs] : List Value).toArray w fun e w' => e = .returned (.bool (matchOk p.dats t)) ∧ Below w.heap.size w w' := by
  have hB := Below.refl w.heap.size w
  refine At.enter (N := 32) Try.func54 rfl rfl (by simp) [(0, .agg p.cs), (1, .agg t.cs)] (by simp) ?_
  refine At.seq ?_
  refine At.region ?_
  refine At.box rfl rfl (fun b1 w1 F1 => ?_)
  have gb1 := F1.ge hB
  have hb1 : w1.heap[b1]? = some (.cells p.cs 75) := F1.new
  replace hB := F1.below' hB
  refine At.box rfl rfl (fun b2 w2 F2 => ?_)
  have n_b1_b2 : b1 ≠ b2 := Nat.ne_of_lt (F2.lt hb1)
  have gb2 := F2.ge hB
  replace hb1 := F2.old hb1
  have hb2 : w2.heap[b2]? = some (.cells t.cs 33) := F2.new
  replace hB := F2.below' hB
  refine At.assign rfl rfl ?_
  refine At.ops0 ?_
  refine At.thenN ?_
  refine At.seq ?_
  refine At.seq ?_
  refine At.region ?_
  refine At.fieldAddr rfl fo33_6 rfl ?_
  refine At.load rfl (Ld.ownCell ag25 hb2 (ht).c6) rfl ?_
  refine At.lenSl rfl ((ht).armsAt).okL el25 rfl ?_
  refine At.eqI rfl rfl rfl ?_
  refine At.ops0 ?_
  refine At.thenN ?_
  refine At.cond (b := decide ((t.arms.length : Int) = 0)) rfl (fun hc1 => ?_) (fun hc1 => ?_)
  · skip
    have hc1' := of_decide_eq_true hc1
    refine At.seq ?_
    refine At.region ?_
    refine At.assign rfl rfl ?_
    refine At.ops0 ?_
    refine At.thenN ?_
    refine At.retc ?_
    refine At.thenR ?_
    refine At.doneR (ResV.tmp rfl ResV.nil) ?_
    exact ⟨congrArg Ending.returned (congrArg Value.bool (matchOk_nil (by omega)).symm), hB⟩
  · skip
    have hc1' := of_decide_eq_false hc1
    refine At.skip ?_
    refine At.thenN ?_
    refine At.seq ?_
    obtain ⟨u1, hu1⟩ := some_of_lt (l := t.arms) (i := 0) (by omega)
    refine At.joinG (ι := Nat) (fun b3 => [(3, .pointer (some ⟨b2, 0, none⟩)), (5, .pointer (some ⟨b3, 0, none⟩)), (7, .bool ((findCon p.dats u1.nm).isSome))]) (fun b3 w8 => (Below w.heap.size w w8) ∧ (w8.heap[b2]? = some (.cells t.cs 33)) ∧ (w8.heap[b3]? = some (.cells (datE (findCon p.dats u1.nm)).cs 52)) ∧ (w.heap.size ≤ b3) ∧ (b2 ≠ b3)) ?_ (fun b3 w8 hS => ?_)
    · skip
      refine At.drawG (n := 17) mixed (by kernel_rfl) rfl (PanicOk.norm (PanicOk.then PanicOk.body)) ?_
      have hB := Below.drewB hB
      have hb1 : _ := (show w2.drew.heap[b1]? = _ from hb1)
      have hb2 : _ := (show w2.drew.heap[b2]? = _ from hb2)
      refine At.wpcS (i := 0) (d := 13) (.pointer (some ⟨b1, 0 + 0, none⟩)) (by kernel_rfl) rfl rfl rfl (fun Lx => ?_) ?_
      · skip
        refine At.fieldAddr rfl fo75_0 rfl ?_
        refine At.ops0 ?_
        exact fun a ha => ⟨ha, rfl⟩
      refine At.wpcS (i := 1) (d := 14) (.agg p.cs) (by kernel_rfl) rfl rfl rfl (fun Lx => ?_) ?_
      · skip
        refine At.load rfl (Ld.own ag35 (sz35.trans (congrArg some (hp).size.symm)) hb1) rfl ?_
        refine At.ops0 ?_
        exact fun a ha => ⟨ha, rfl⟩
      refine At.wpcS (i := 2) (d := 15) (.pointer (some ⟨b2, 0 + 6, none⟩)) (by kernel_rfl) rfl rfl rfl (fun Lx => ?_) ?_
      · skip
        refine At.fieldAddr rfl fo33_6 rfl ?_
        refine At.ops0 ?_
        exact fun a ha => ⟨ha, rfl⟩
      refine At.wpcS (i := 3) (d := 16) (t.av) (by kernel_rfl) rfl rfl rfl (fun Lx => ?_) ?_
      · skip
        refine At.load rfl (Ld.ownCell ag25 hb2 (ht).c6) rfl ?_
        refine At.ops0 ?_
        exact fun a ha => ⟨ha, rfl⟩
      refine At.wpcS (i := 4) (d := 17) (.pointer (some ⟨vBlock t.av, vOff t.av + 0 * 23, none⟩)) (by kernel_rfl) rfl rfl rfl (fun Lx => ?_) ?_
      · skip
        refine At.indexAddr (i := 0) rfl rfl ((ht).armsAt).okL (lt_of_some hu1) el25 sz71 rfl ?_
        refine At.ops0 ?_
        exact fun a ha => ⟨ha, rfl⟩
      refine At.wpcS (i := 5) (d := 18) (.pointer (some ⟨vBlock t.av, vOff t.av + 0 * 23 + 0, none⟩)) (by kernel_rfl) rfl rfl rfl (fun Lx => ?_) ?_
      · skip
        refine At.fieldAddr rfl fo71_0 rfl ?_
        refine At.ops0 ?_
        exact fun a ha => ⟨ha, rfl⟩
      refine At.wpcS (i := 6) (d := 19) (.string u1.nm) (by kernel_rfl) rfl rfl rfl (fun Lx => ?_) ?_
      · skip
        refine At.load rfl (Ld.cell ag9 (cell_keep ((((ht).armsAt).row hu1).get (((ht).arm hu1)).c0) hB)) rfl ?_
        refine At.ops0 ?_
        exact fun a ha => ⟨ha, rfl⟩
      refine At.wpcE [7, 12, 13] (by kernel_rfl) (by kernel_rfl) (.cons [] rfl (by kernel_rfl) ?_ (.cons [0, 1, 2, 3, 4, 5, 6] rfl (by kernel_rfl) ?_ (.cons [0, 1, 2, 3, 4, 5, 6] rfl (by kernel_rfl) ?_ .nil)))
      · skip
        refine At.call en18 rfl rfl (con_any p u1.nm _ ((hp).keep hB) hz.hl hz.ho hz.hc) (fun e w9 hR => ?_)
        obtain ⟨rfl, hbl2⟩ := hR
        refine ⟨_, rfl, ?_⟩
        replace hb1 := Below.old hbl2 hb1
        replace hb2 := Below.old hbl2 hb2
        replace hB := Below.andThen hB hbl2
        refine At.ops0 ?_
        refine At.wpcN .nil ?_
        refine At.wpcS (i := 8) (d := 12) (.tuple #[.agg (datE (findCon p.dats u1.nm)).cs, .agg (cnE (findCon p.dats u1.nm)).cs, .bool ((findCon p.dats u1.nm).isSome)]) (by kernel_rfl) rfl rfl rfl (fun Lx => ?_) ?_
        · skip
          refine At.move rfl rfl ?_
          refine At.ops0 ?_
          exact fun a ha => ⟨ha, rfl⟩
        refine At.wpcS (i := 9) (d := 21) (.agg (datE (findCon p.dats u1.nm)).cs) (by kernel_rfl) rfl rfl rfl (fun Lx => ?_) ?_
        · skip
          refine At.extract rfl rfl rfl ?_
          refine At.ops0 ?_
          exact fun a ha => ⟨ha, rfl⟩
        refine At.wpcS (i := 10) (d := 22) (.agg (cnE (findCon p.dats u1.nm)).cs) (by kernel_rfl) rfl rfl rfl (fun Lx => ?_) ?_
        · skip
          refine At.extract rfl rfl rfl ?_
          refine At.ops0 ?_
          exact fun a ha => ⟨ha, rfl⟩
        refine At.wpcS (i := 11) (d := 23) (.bool ((findCon p.dats u1.nm).isSome)) (by kernel_rfl) rfl rfl rfl (fun Lx => ?_) ?_
        · skip
          refine At.extract rfl rfl rfl ?_
          refine At.ops0 ?_
          exact fun a ha => ⟨ha, rfl⟩
        refine At.wpcE [12, 13] (by kernel_rfl) (by kernel_rfl) (.cons [8, 9, 10, 11] rfl (by kernel_rfl) ?_ (.cons [8, 9, 10, 11] rfl (by kernel_rfl) ?_ .nil))
        · skip
          refine At.alloc ze52 rfl (fun b5 w10 F5 => ?_)
          have n_b1_b5 : b1 ≠ b5 := Nat.ne_of_lt (F5.lt hb1)
          have n_b2_b5 : b2 ≠ b5 := Nat.ne_of_lt (F5.lt hb2)
          have gb5 := F5.ge hB
          replace hb1 := F5.old hb1
          replace hb2 := F5.old hb2
          have hb5 : w10.heap[b5]? = some (.cells #[.string (⟨#[]⟩ : ByteArray), (.slice none 0 0)] 52) := F5.new
          replace hB := F5.below' hB
          refine At.ops0 ?_
          refine At.wpcN (.cons rfl rfl rfl rfl (fun Lx => ?_) (.cons rfl rfl rfl rfl (fun Lx => ?_) (.cons rfl rfl rfl rfl (fun Lx => ?_) (.cons rfl rfl rfl rfl (fun Lx => ?_) .nil)))) ?_
          · skip
            refine At.move rfl rfl ?_
            refine At.ops0 ?_
            exact fun a ha => ⟨ha, rfl⟩
          · skip
            refine At.extract rfl rfl rfl ?_
            refine At.ops0 ?_
            exact fun a ha => ⟨ha, rfl⟩
          · skip
            refine At.extract rfl rfl rfl ?_
            refine At.ops0 ?_
            exact fun a ha => ⟨ha, rfl⟩
          · skip
            refine At.extract rfl rfl rfl ?_
            refine At.ops0 ?_
            exact fun a ha => ⟨ha, rfl⟩
          refine At.wpcE [13] (by kernel_rfl) (by kernel_rfl) (.cons [8, 9, 10, 11] rfl (by kernel_rfl) ?_ .nil)
          refine At.alloc ze54 rfl (fun b6 w11 F6 => ?_)
          have n_b1_b6 : b1 ≠ b6 := Nat.ne_of_lt (F6.lt hb1)
          have n_b2_b6 : b2 ≠ b6 := Nat.ne_of_lt (F6.lt hb2)
          have n_b5_b6 : b5 ≠ b6 := Nat.ne_of_lt (F6.lt hb5)
          have gb6 := F6.ge hB
          replace hb1 := F6.old hb1
          replace hb2 := F6.old hb2
          replace hb5 := F6.old hb5
          have hb6 : w11.heap[b6]? = some (.cells #[.string (⟨#[]⟩ : ByteArray), (.slice none 0 0)] 54) := F6.new
          replace hB := F6.below' hB
          refine At.ops0 ?_
          refine At.wpcN (.cons rfl rfl rfl rfl (fun Lx => ?_) (.cons rfl rfl rfl rfl (fun Lx => ?_) (.cons rfl rfl rfl rfl (fun Lx => ?_) (.cons rfl rfl rfl rfl (fun Lx => ?_) .nil)))) ?_
          · skip
            refine At.move rfl rfl ?_
            refine At.ops0 ?_
            exact fun a ha => ⟨ha, rfl⟩
          · skip
            refine At.extract rfl rfl rfl ?_
            refine At.ops0 ?_
            exact fun a ha => ⟨ha, rfl⟩
          · skip
            refine At.extract rfl rfl rfl ?_
            refine At.ops0 ?_
            exact fun a ha => ⟨ha, rfl⟩
          · skip
            refine At.extract rfl rfl rfl ?_
            refine At.ops0 ?_
            exact fun a ha => ⟨ha, rfl⟩
          refine At.wpcE [14] (by kernel_rfl) (by kernel_rfl) (.cons [10, 11] rfl (by kernel_rfl) ?_ .nil)
          refine At.storeAll rfl rfl hb5 (sz52.trans (congrArg some ((datE_ok hp u1.nm)).size.symm)) ((datE_ok hp u1.nm)).size.symm ((datE_ok hp u1.nm)).one (fun w12 S3 => ?_)
          replace hb1 := S3.other hb1 n_b1_b5
          replace hb2 := S3.other hb2 n_b2_b5
          replace hb6 := S3.other hb6 n_b5_b6.symm
          replace hb5 : w12.heap[b5]? = some (.cells (datE (findCon p.dats u1.nm)).cs 52) := S3.new
          replace hB := S3.below' hB gb5
          refine At.ops0 ?_
          refine At.wpcN (.cons rfl rfl rfl rfl (fun Lx => ?_) (.cons rfl rfl rfl rfl (fun Lx => ?_) .nil)) ?_
          · skip
            refine At.extract rfl rfl rfl ?_
            refine At.ops0 ?_
            exact fun a ha => ⟨ha, rfl⟩
          · skip
            refine At.extract rfl rfl rfl ?_
            refine At.ops0 ?_
            exact fun a ha => ⟨ha, rfl⟩
          refine At.wpcE [15] (by kernel_rfl) (by kernel_rfl) (.cons [11] rfl (by kernel_rfl) ?_ .nil)
          refine At.storeAll rfl rfl hb6 (sz54.trans (congrArg some ((cnE_ok hp u1.nm)).size.symm)) ((cnE_ok hp u1.nm)).size.symm ((cnE_ok hp u1.nm)).one (fun w13 S4 => ?_)
          replace hb1 := S4.other hb1 n_b1_b6
          replace hb2 := S4.other hb2 n_b2_b6
          replace hb5 := S4.other hb5 n_b5_b6
          replace hb6 : w13.heap[b6]? = some (.cells (cnE (findCon p.dats u1.nm)).cs 54) := S4.new
          replace hB := S4.below' hB gb6
          refine At.ops0 ?_
          refine At.wpcN (.cons rfl rfl rfl rfl (fun Lx => ?_) .nil) ?_
          · skip
            refine At.extract rfl rfl rfl ?_
            refine At.ops0 ?_
            exact fun a ha => ⟨ha, rfl⟩
          refine At.wpcE [16] (by kernel_rfl) (by kernel_rfl) (.cons [] rfl (by kernel_rfl) ?_ .nil)
          refine At.assign rfl rfl ?_
          refine At.ops0 ?_
          refine At.wpcN .nil ?_
          refine At.wpcZ ?_
          exact At.joinedG b5 (Sub.cons rfl (Sub.cons rfl (Sub.cons rfl Sub.nil))) ⟨hB, hb2, hb5, gb5, n_b2_b5⟩
        · skip
          refine At.alloc ze54 rfl (fun b7 w14 F7 => ?_)
          have n_b1_b7 : b1 ≠ b7 := Nat.ne_of_lt (F7.lt hb1)
          have n_b2_b7 : b2 ≠ b7 := Nat.ne_of_lt (F7.lt hb2)
          have gb7 := F7.ge hB
          replace hb1 := F7.old hb1
          replace hb2 := F7.old hb2
          have hb7 : w14.heap[b7]? = some (.cells #[.string (⟨#[]⟩ : ByteArray), (.slice none 0 0)] 54) := F7.new
          replace hB := F7.below' hB
          refine At.ops0 ?_
          refine At.wpcN (.cons rfl rfl rfl rfl (fun Lx => ?_) (.cons rfl rfl rfl rfl (fun Lx => ?_) (.cons rfl rfl rfl rfl (fun Lx => ?_) (.cons rfl rfl rfl rfl (fun Lx => ?_) .nil)))) ?_
          · skip
            refine At.move rfl rfl ?_
            refine At.ops0 ?_
            exact fun a ha => ⟨ha, rfl⟩
          · skip
            refine At.extract rfl rfl rfl ?_
            refine At.ops0 ?_
            exact fun a ha => ⟨ha, rfl⟩
          · skip
            refine At.extract rfl rfl rfl ?_
            refine At.ops0 ?_
            exact fun a ha => ⟨ha, rfl⟩
          · skip
            refine At.extract rfl rfl rfl ?_
            refine At.ops0 ?_
            exact fun a ha => ⟨ha, rfl⟩
          refine At.wpcE [12] (by kernel_rfl) (by kernel_rfl) (.cons [8, 9, 10, 11] rfl (by kernel_rfl) ?_ .nil)
          refine At.alloc ze52 rfl (fun b8 w15 F8 => ?_)
          have n_b1_b8 : b1 ≠ b8 := Nat.ne_of_lt (F8.lt hb1)
          have n_b2_b8 : b2 ≠ b8 := Nat.ne_of_lt (F8.lt hb2)
          have n_b7_b8 : b7 ≠ b8 := Nat.ne_of_lt (F8.lt hb7)
          have gb8 := F8.ge hB
          replace hb1 := F8.old hb1
          replace hb2 := F8.old hb2
          replace hb7 := F8.old hb7
          have hb8 : w15.heap[b8]? = some (.cells #[.string (⟨#[]⟩ : ByteArray), (.slice none 0 0)] 52) := F8.new
          replace hB := F8.below' hB
          refine At.ops0 ?_
          refine At.wpcN (.cons rfl rfl rfl rfl (fun Lx => ?_) (.cons rfl rfl rfl rfl (fun Lx => ?_) (.cons rfl rfl rfl rfl (fun Lx => ?_) (.cons rfl rfl rfl rfl (fun Lx => ?_) .nil)))) ?_
          · skip
            refine At.move rfl rfl ?_
            refine At.ops0 ?_
            exact fun a ha => ⟨ha, rfl⟩
          · skip
            refine At.extract rfl rfl rfl ?_
            refine At.ops0 ?_
            exact fun a ha => ⟨ha, rfl⟩
          · skip
            refine At.extract rfl rfl rfl ?_
            refine At.ops0 ?_
            exact fun a ha => ⟨ha, rfl⟩
          · skip
            refine At.extract rfl rfl rfl ?_
            refine At.ops0 ?_
            exact fun a ha => ⟨ha, rfl⟩
          refine At.wpcE [14] (by kernel_rfl) (by kernel_rfl) (.cons [10, 11] rfl (by kernel_rfl) ?_ .nil)
          refine At.storeAll rfl rfl hb8 (sz52.trans (congrArg some ((datE_ok hp u1.nm)).size.symm)) ((datE_ok hp u1.nm)).size.symm ((datE_ok hp u1.nm)).one (fun w16 S5 => ?_)
          replace hb1 := S5.other hb1 n_b1_b8
          replace hb2 := S5.other hb2 n_b2_b8
          replace hb7 := S5.other hb7 n_b7_b8
          replace hb8 : w16.heap[b8]? = some (.cells (datE (findCon p.dats u1.nm)).cs 52) := S5.new
          replace hB := S5.below' hB gb8
          refine At.ops0 ?_
          refine At.wpcN (.cons rfl rfl rfl rfl (fun Lx => ?_) (.cons rfl rfl rfl rfl (fun Lx => ?_) .nil)) ?_
          · skip
            refine At.extract rfl rfl rfl ?_
            refine At.ops0 ?_
            exact fun a ha => ⟨ha, rfl⟩
          · skip
            refine At.extract rfl rfl rfl ?_
            refine At.ops0 ?_
            exact fun a ha => ⟨ha, rfl⟩
          refine At.wpcE [15] (by kernel_rfl) (by kernel_rfl) (.cons [11] rfl (by kernel_rfl) ?_ .nil)
          refine At.storeAll rfl rfl hb7 (sz54.trans (congrArg some ((cnE_ok hp u1.nm)).size.symm)) ((cnE_ok hp u1.nm)).size.symm ((cnE_ok hp u1.nm)).one (fun w17 S6 => ?_)
          replace hb1 := S6.other hb1 n_b1_b7
          replace hb2 := S6.other hb2 n_b2_b7
          replace hb8 := S6.other hb8 n_b7_b8.symm
          replace hb7 : w17.heap[b7]? = some (.cells (cnE (findCon p.dats u1.nm)).cs 54) := S6.new
          replace hB := S6.below' hB gb7
          refine At.ops0 ?_
          refine At.wpcN (.cons rfl rfl rfl rfl (fun Lx => ?_) .nil) ?_
          · skip
            refine At.extract rfl rfl rfl ?_
            refine At.ops0 ?_
            exact fun a ha => ⟨ha, rfl⟩
          refine At.wpcE [16] (by kernel_rfl) (by kernel_rfl) (.cons [] rfl (by kernel_rfl) ?_ .nil)
          refine At.assign rfl rfl ?_
          refine At.ops0 ?_
          refine At.wpcN .nil ?_
          refine At.wpcZ ?_
          exact At.joinedG b8 (Sub.cons rfl (Sub.cons rfl (Sub.cons rfl Sub.nil))) ⟨hB, hb2, hb8, gb8, n_b2_b8⟩
      · skip
        refine At.alloc ze52 rfl (fun b9 w18 F9 => ?_)
        have n_b1_b9 : b1 ≠ b9 := Nat.ne_of_lt (F9.lt hb1)
        have n_b2_b9 : b2 ≠ b9 := Nat.ne_of_lt (F9.lt hb2)
        have gb9 := F9.ge hB
        replace hb1 := F9.old hb1
        replace hb2 := F9.old hb2
        have hb9 : w18.heap[b9]? = some (.cells #[.string (⟨#[]⟩ : ByteArray), (.slice none 0 0)] 52) := F9.new
        replace hB := F9.below' hB
        refine At.ops0 ?_
        refine At.wpcN (.cons rfl rfl rfl rfl (fun Lx => ?_) (.cons rfl rfl rfl rfl (fun Lx => ?_) (.cons rfl rfl rfl rfl (fun Lx => ?_) (.cons rfl rfl rfl rfl (fun Lx => ?_) (.cons rfl rfl rfl rfl (fun Lx => ?_) (.cons rfl rfl rfl rfl (fun Lx => ?_) (.cons rfl rfl rfl rfl (fun Lx => ?_) .nil))))))) ?_
        · skip
          refine At.fieldAddr rfl fo75_0 rfl ?_
          refine At.ops0 ?_
          exact fun a ha => ⟨ha, rfl⟩
        · skip
          refine At.load rfl (Ld.own ag35 (sz35.trans (congrArg some (hp).size.symm)) hb1) rfl ?_
          refine At.ops0 ?_
          exact fun a ha => ⟨ha, rfl⟩
        · skip
          refine At.fieldAddr rfl fo33_6 rfl ?_
          refine At.ops0 ?_
          exact fun a ha => ⟨ha, rfl⟩
        · skip
          refine At.load rfl (Ld.ownCell ag25 hb2 (ht).c6) rfl ?_
          refine At.ops0 ?_
          exact fun a ha => ⟨ha, rfl⟩
        · skip
          refine At.indexAddr (i := 0) rfl rfl ((ht).armsAt).okL (lt_of_some hu1) el25 sz71 rfl ?_
          refine At.ops0 ?_
          exact fun a ha => ⟨ha, rfl⟩
        · skip
          refine At.fieldAddr rfl fo71_0 rfl ?_
          refine At.ops0 ?_
          exact fun a ha => ⟨ha, rfl⟩
        · skip
          refine At.load rfl (Ld.cell ag9 (cell_keep ((((ht).armsAt).row hu1).get (((ht).arm hu1)).c0) hB)) rfl ?_
          refine At.ops0 ?_
          exact fun a ha => ⟨ha, rfl⟩
        refine At.wpcE [7, 13] (by kernel_rfl) (by kernel_rfl) (.cons [] rfl (by kernel_rfl) ?_ (.cons [0, 1, 2, 3, 4, 5, 6] rfl (by kernel_rfl) ?_ .nil))
        · skip
          refine At.call en18 rfl rfl (con_any p u1.nm _ ((hp).keep hB) hz.hl hz.ho hz.hc) (fun e w19 hR => ?_)
          obtain ⟨rfl, hbl3⟩ := hR
          refine ⟨_, rfl, ?_⟩
          replace hb1 := Below.old hbl3 hb1
          replace hb2 := Below.old hbl3 hb2
          replace hb9 := Below.old hbl3 hb9
          replace hB := Below.andThen hB hbl3
          refine At.ops0 ?_
          refine At.wpcN .nil ?_
          refine At.wpcS (i := 8) (d := 12) (.tuple #[.agg (datE (findCon p.dats u1.nm)).cs, .agg (cnE (findCon p.dats u1.nm)).cs, .bool ((findCon p.dats u1.nm).isSome)]) (by kernel_rfl) rfl rfl rfl (fun Lx => ?_) ?_
          · skip
            refine At.move rfl rfl ?_
            refine At.ops0 ?_
            exact fun a ha => ⟨ha, rfl⟩
          refine At.wpcS (i := 9) (d := 21) (.agg (datE (findCon p.dats u1.nm)).cs) (by kernel_rfl) rfl rfl rfl (fun Lx => ?_) ?_
          · skip
            refine At.extract rfl rfl rfl ?_
            refine At.ops0 ?_
            exact fun a ha => ⟨ha, rfl⟩
          refine At.wpcS (i := 10) (d := 22) (.agg (cnE (findCon p.dats u1.nm)).cs) (by kernel_rfl) rfl rfl rfl (fun Lx => ?_) ?_
          · skip
            refine At.extract rfl rfl rfl ?_
            refine At.ops0 ?_
            exact fun a ha => ⟨ha, rfl⟩
          refine At.wpcS (i := 11) (d := 23) (.bool ((findCon p.dats u1.nm).isSome)) (by kernel_rfl) rfl rfl rfl (fun Lx => ?_) ?_
          · skip
            refine At.extract rfl rfl rfl ?_
            refine At.ops0 ?_
            exact fun a ha => ⟨ha, rfl⟩
          refine At.wpcE [13] (by kernel_rfl) (by kernel_rfl) (.cons [8, 9, 10, 11] rfl (by kernel_rfl) ?_ .nil)
          refine At.alloc ze54 rfl (fun b10 w20 F10 => ?_)
          have n_b1_b10 : b1 ≠ b10 := Nat.ne_of_lt (F10.lt hb1)
          have n_b2_b10 : b2 ≠ b10 := Nat.ne_of_lt (F10.lt hb2)
          have n_b9_b10 : b9 ≠ b10 := Nat.ne_of_lt (F10.lt hb9)
          have gb10 := F10.ge hB
          replace hb1 := F10.old hb1
          replace hb2 := F10.old hb2
          replace hb9 := F10.old hb9
          have hb10 : w20.heap[b10]? = some (.cells #[.string (⟨#[]⟩ : ByteArray), (.slice none 0 0)] 54) := F10.new
          replace hB := F10.below' hB
          refine At.ops0 ?_
          refine At.wpcN (.cons rfl rfl rfl rfl (fun Lx => ?_) (.cons rfl rfl rfl rfl (fun Lx => ?_) (.cons rfl rfl rfl rfl (fun Lx => ?_) (.cons rfl rfl rfl rfl (fun Lx => ?_) .nil)))) ?_
          · skip
            refine At.move rfl rfl ?_
            refine At.ops0 ?_
            exact fun a ha => ⟨ha, rfl⟩
          · skip
            refine At.extract rfl rfl rfl ?_
            refine At.ops0 ?_
            exact fun a ha => ⟨ha, rfl⟩
          · skip
            refine At.extract rfl rfl rfl ?_
            refine At.ops0 ?_
            exact fun a ha => ⟨ha, rfl⟩
          · skip
            refine At.extract rfl rfl rfl ?_
            refine At.ops0 ?_
            exact fun a ha => ⟨ha, rfl⟩
          refine At.wpcE [14] (by kernel_rfl) (by kernel_rfl) (.cons [10, 11] rfl (by kernel_rfl) ?_ .nil)
          refine At.storeAll rfl rfl hb9 (sz52.trans (congrArg some ((datE_ok hp u1.nm)).size.symm)) ((datE_ok hp u1.nm)).size.symm ((datE_ok hp u1.nm)).one (fun w21 S7 => ?_)
          replace hb1 := S7.other hb1 n_b1_b9
          replace hb2 := S7.other hb2 n_b2_b9
          replace hb10 := S7.other hb10 n_b9_b10.symm
          replace hb9 : w21.heap[b9]? = some (.cells (datE (findCon p.dats u1.nm)).cs 52) := S7.new
          replace hB := S7.below' hB gb9
          refine At.ops0 ?_
          refine At.wpcN (.cons rfl rfl rfl rfl (fun Lx => ?_) (.cons rfl rfl rfl rfl (fun Lx => ?_) .nil)) ?_
          · skip
            refine At.extract rfl rfl rfl ?_
            refine At.ops0 ?_
            exact fun a ha => ⟨ha, rfl⟩
          · skip
            refine At.extract rfl rfl rfl ?_
            refine At.ops0 ?_
            exact fun a ha => ⟨ha, rfl⟩
          refine At.wpcE [15] (by kernel_rfl) (by kernel_rfl) (.cons [11] rfl (by kernel_rfl) ?_ .nil)
          refine At.storeAll rfl rfl hb10 (sz54.trans (congrArg some ((cnE_ok hp u1.nm)).size.symm)) ((cnE_ok hp u1.nm)).size.symm ((cnE_ok hp u1.nm)).one (fun w22 S8 => ?_)
          replace hb1 := S8.other hb1 n_b1_b10
          replace hb2 := S8.other hb2 n_b2_b10
          replace hb9 := S8.other hb9 n_b9_b10
          replace hb10 : w22.heap[b10]? = some (.cells (cnE (findCon p.dats u1.nm)).cs 54) := S8.new
          replace hB := S8.below' hB gb10
          refine At.ops0 ?_
          refine At.wpcN (.cons rfl rfl rfl rfl (fun Lx => ?_) .nil) ?_
          · skip
            refine At.extract rfl rfl rfl ?_
            refine At.ops0 ?_
            exact fun a ha => ⟨ha, rfl⟩
          refine At.wpcE [16] (by kernel_rfl) (by kernel_rfl) (.cons [] rfl (by kernel_rfl) ?_ .nil)
          refine At.assign rfl rfl ?_
          refine At.ops0 ?_
          refine At.wpcN .nil ?_
          refine At.wpcZ ?_
          exact At.joinedG b9 (Sub.cons rfl (Sub.cons rfl (Sub.cons rfl Sub.nil))) ⟨hB, hb2, hb9, gb9, n_b2_b9⟩
        · skip
          refine At.alloc ze54 rfl (fun b11 w23 F11 => ?_)
          have n_b1_b11 : b1 ≠ b11 := Nat.ne_of_lt (F11.lt hb1)
          have n_b2_b11 : b2 ≠ b11 := Nat.ne_of_lt (F11.lt hb2)
          have n_b9_b11 : b9 ≠ b11 := Nat.ne_of_lt (F11.lt hb9)
          have gb11 := F11.ge hB
          replace hb1 := F11.old hb1
          replace hb2 := F11.old hb2
          replace hb9 := F11.old hb9
          have hb11 : w23.heap[b11]? = some (.cells #[.string (⟨#[]⟩ : ByteArray), (.slice none 0 0)] 54) := F11.new
          replace hB := F11.below' hB
          refine At.ops0 ?_
          refine At.wpcN (.cons rfl rfl rfl rfl (fun Lx => ?_) (.cons rfl rfl rfl rfl (fun Lx => ?_) (.cons rfl rfl rfl rfl (fun Lx => ?_) (.cons rfl rfl rfl rfl (fun Lx => ?_) (.cons rfl rfl rfl rfl (fun Lx => ?_) (.cons rfl rfl rfl rfl (fun Lx => ?_) (.cons rfl rfl rfl rfl (fun Lx => ?_) .nil))))))) ?_
          · skip
            refine At.fieldAddr rfl fo75_0 rfl ?_
            refine At.ops0 ?_
            exact fun a ha => ⟨ha, rfl⟩
          · skip
            refine At.load rfl (Ld.own ag35 (sz35.trans (congrArg some (hp).size.symm)) hb1) rfl ?_
            refine At.ops0 ?_
            exact fun a ha => ⟨ha, rfl⟩
          · skip
            refine At.fieldAddr rfl fo33_6 rfl ?_
            refine At.ops0 ?_
            exact fun a ha => ⟨ha, rfl⟩
          · skip
            refine At.load rfl (Ld.ownCell ag25 hb2 (ht).c6) rfl ?_
            refine At.ops0 ?_
            exact fun a ha => ⟨ha, rfl⟩
          · skip
            refine At.indexAddr (i := 0) rfl rfl ((ht).armsAt).okL (lt_of_some hu1) el25 sz71 rfl ?_
            refine At.ops0 ?_
            exact fun a ha => ⟨ha, rfl⟩
          · skip
            refine At.fieldAddr rfl fo71_0 rfl ?_
            refine At.ops0 ?_
            exact fun a ha => ⟨ha, rfl⟩
          · skip
            refine At.load rfl (Ld.cell ag9 (cell_keep ((((ht).armsAt).row hu1).get (((ht).arm hu1)).c0) hB)) rfl ?_
            refine At.ops0 ?_
            exact fun a ha => ⟨ha, rfl⟩
          refine At.wpcE [7] (by kernel_rfl) (by kernel_rfl) (.cons [] rfl (by kernel_rfl) ?_ .nil)
          refine At.call en18 rfl rfl (con_any p u1.nm _ ((hp).keep hB) hz.hl hz.ho hz.hc) (fun e w24 hR => ?_)
          obtain ⟨rfl, hbl4⟩ := hR
          refine ⟨_, rfl, ?_⟩
          replace hb1 := Below.old hbl4 hb1
          replace hb2 := Below.old hbl4 hb2
          replace hb9 := Below.old hbl4 hb9
          replace hb11 := Below.old hbl4 hb11
          replace hB := Below.andThen hB hbl4
          refine At.ops0 ?_
          refine At.wpcN .nil ?_
          refine At.wpcS (i := 8) (d := 12) (.tuple #[.agg (datE (findCon p.dats u1.nm)).cs, .agg (cnE (findCon p.dats u1.nm)).cs, .bool ((findCon p.dats u1.nm).isSome)]) (by kernel_rfl) rfl rfl rfl (fun Lx => ?_) ?_
          · skip
            refine At.move rfl rfl ?_
            refine At.ops0 ?_
            exact fun a ha => ⟨ha, rfl⟩
          refine At.wpcS (i := 9) (d := 21) (.agg (datE (findCon p.dats u1.nm)).cs) (by kernel_rfl) rfl rfl rfl (fun Lx => ?_) ?_
          · skip
            refine At.extract rfl rfl rfl ?_
            refine At.ops0 ?_
            exact fun a ha => ⟨ha, rfl⟩
          refine At.wpcS (i := 10) (d := 22) (.agg (cnE (findCon p.dats u1.nm)).cs) (by kernel_rfl) rfl rfl rfl (fun Lx => ?_) ?_
          · skip
            refine At.extract rfl rfl rfl ?_
            refine At.ops0 ?_
            exact fun a ha => ⟨ha, rfl⟩
          refine At.wpcS (i := 11) (d := 23) (.bool ((findCon p.dats u1.nm).isSome)) (by kernel_rfl) rfl rfl rfl (fun Lx => ?_) ?_
          · skip
            refine At.extract rfl rfl rfl ?_
            refine At.ops0 ?_
            exact fun a ha => ⟨ha, rfl⟩
          refine At.wpcE [14] (by kernel_rfl) (by kernel_rfl) (.cons [10, 11] rfl (by kernel_rfl) ?_ .nil)
          refine At.storeAll rfl rfl hb9 (sz52.trans (congrArg some ((datE_ok hp u1.nm)).size.symm)) ((datE_ok hp u1.nm)).size.symm ((datE_ok hp u1.nm)).one (fun w25 S9 => ?_)
          replace hb1 := S9.other hb1 n_b1_b9
          replace hb2 := S9.other hb2 n_b2_b9
          replace hb11 := S9.other hb11 n_b9_b11.symm
          replace hb9 : w25.heap[b9]? = some (.cells (datE (findCon p.dats u1.nm)).cs 52) := S9.new
          replace hB := S9.below' hB gb9
          refine At.ops0 ?_
          refine At.wpcN (.cons rfl rfl rfl rfl (fun Lx => ?_) (.cons rfl rfl rfl rfl (fun Lx => ?_) .nil)) ?_
          · skip
            refine At.extract rfl rfl rfl ?_
            refine At.ops0 ?_
            exact fun a ha => ⟨ha, rfl⟩
          · skip
            refine At.extract rfl rfl rfl ?_
            refine At.ops0 ?_
            exact fun a ha => ⟨ha, rfl⟩
          refine At.wpcE [15] (by kernel_rfl) (by kernel_rfl) (.cons [11] rfl (by kernel_rfl) ?_ .nil)
          refine At.storeAll rfl rfl hb11 (sz54.trans (congrArg some ((cnE_ok hp u1.nm)).size.symm)) ((cnE_ok hp u1.nm)).size.symm ((cnE_ok hp u1.nm)).one (fun w26 S10 => ?_)
          replace hb1 := S10.other hb1 n_b1_b11
          replace hb2 := S10.other hb2 n_b2_b11
          replace hb9 := S10.other hb9 n_b9_b11
          replace hb11 : w26.heap[b11]? = some (.cells (cnE (findCon p.dats u1.nm)).cs 54) := S10.new
          replace hB := S10.below' hB gb11
          refine At.ops0 ?_
          refine At.wpcN (.cons rfl rfl rfl rfl (fun Lx => ?_) .nil) ?_
          · skip
            refine At.extract rfl rfl rfl ?_
            refine At.ops0 ?_
            exact fun a ha => ⟨ha, rfl⟩
          refine At.wpcE [16] (by kernel_rfl) (by kernel_rfl) (.cons [] rfl (by kernel_rfl) ?_ .nil)
          refine At.assign rfl rfl ?_
          refine At.ops0 ?_
          refine At.wpcN .nil ?_
          refine At.wpcZ ?_
          exact At.joinedG b9 (Sub.cons rfl (Sub.cons rfl (Sub.cons rfl Sub.nil))) ⟨hB, hb2, hb9, gb9, n_b2_b9⟩
      · skip
        refine At.alloc ze54 rfl (fun b12 w27 F12 => ?_)
        have n_b1_b12 : b1 ≠ b12 := Nat.ne_of_lt (F12.lt hb1)
        have n_b2_b12 : b2 ≠ b12 := Nat.ne_of_lt (F12.lt hb2)
        have gb12 := F12.ge hB
        replace hb1 := F12.old hb1
        replace hb2 := F12.old hb2
        have hb12 : w27.heap[b12]? = some (.cells #[.string (⟨#[]⟩ : ByteArray), (.slice none 0 0)] 54) := F12.new
        replace hB := F12.below' hB
        refine At.ops0 ?_
        refine At.wpcN (.cons rfl rfl rfl rfl (fun Lx => ?_) (.cons rfl rfl rfl rfl (fun Lx => ?_) (.cons rfl rfl rfl rfl (fun Lx => ?_) (.cons rfl rfl rfl rfl (fun Lx => ?_) (.cons rfl rfl rfl rfl (fun Lx => ?_) (.cons rfl rfl rfl rfl (fun Lx => ?_) (.cons rfl rfl rfl rfl (fun Lx => ?_) .nil))))))) ?_
        · skip
          refine At.fieldAddr rfl fo75_0 rfl ?_
          refine At.ops0 ?_
          exact fun a ha => ⟨ha, rfl⟩
        · skip
          refine At.load rfl (Ld.own ag35 (sz35.trans (congrArg some (hp).size.symm)) hb1) rfl ?_
          refine At.ops0 ?_
          exact fun a ha => ⟨ha, rfl⟩
        · skip
          refine At.fieldAddr rfl fo33_6 rfl ?_
          refine At.ops0 ?_
          exact fun a ha => ⟨ha, rfl⟩
        · skip
          refine At.load rfl (Ld.ownCell ag25 hb2 (ht).c6) rfl ?_
          refine At.ops0 ?_
          exact fun a ha => ⟨ha, rfl⟩
        · skip
          refine At.indexAddr (i := 0) rfl rfl ((ht).armsAt).okL (lt_of_some hu1) el25 sz71 rfl ?_
          refine At.ops0 ?_
          exact fun a ha => ⟨ha, rfl⟩
        · skip
          refine At.fieldAddr rfl fo71_0 rfl ?_
          refine At.ops0 ?_
          exact fun a ha => ⟨ha, rfl⟩
        · skip
          refine At.load rfl (Ld.cell ag9 (cell_keep ((((ht).armsAt).row hu1).get (((ht).arm hu1)).c0) hB)) rfl ?_
          refine At.ops0 ?_
          exact fun a ha => ⟨ha, rfl⟩
        refine At.wpcE [7, 12] (by kernel_rfl) (by kernel_rfl) (.cons [] rfl (by kernel_rfl) ?_ (.cons [0, 1, 2, 3, 4, 5, 6] rfl (by kernel_rfl) ?_ .nil))
        · skip
          refine At.call en18 rfl rfl (con_any p u1.nm _ ((hp).keep hB) hz.hl hz.ho hz.hc) (fun e w28 hR => ?_)
          obtain ⟨rfl, hbl5⟩ := hR
          refine ⟨_, rfl, ?_⟩
          replace hb1 := Below.old hbl5 hb1
          replace hb2 := Below.old hbl5 hb2
          replace hb12 := Below.old hbl5 hb12
          replace hB := Below.andThen hB hbl5
          refine At.ops0 ?_
          refine At.wpcN .nil ?_
          refine At.wpcS (i := 8) (d := 12) (.tuple #[.agg (datE (findCon p.dats u1.nm)).cs, .agg (cnE (findCon p.dats u1.nm)).cs, .bool ((findCon p.dats u1.nm).isSome)]) (by kernel_rfl) rfl rfl rfl (fun Lx => ?_) ?_
          · skip
            refine At.move rfl rfl ?_
            refine At.ops0 ?_
            exact fun a ha => ⟨ha, rfl⟩
          refine At.wpcS (i := 9) (d := 21) (.agg (datE (findCon p.dats u1.nm)).cs) (by kernel_rfl) rfl rfl rfl (fun Lx => ?_) ?_
          · skip
            refine At.extract rfl rfl rfl ?_
            refine At.ops0 ?_
            exact fun a ha => ⟨ha, rfl⟩
          refine At.wpcS (i := 10) (d := 22) (.agg (cnE (findCon p.dats u1.nm)).cs) (by kernel_rfl) rfl rfl rfl (fun Lx => ?_) ?_
          · skip
            refine At.extract rfl rfl rfl ?_
            refine At.ops0 ?_
            exact fun a ha => ⟨ha, rfl⟩
          refine At.wpcS (i := 11) (d := 23) (.bool ((findCon p.dats u1.nm).isSome)) (by kernel_rfl) rfl rfl rfl (fun Lx => ?_) ?_
          · skip
            refine At.extract rfl rfl rfl ?_
            refine At.ops0 ?_
            exact fun a ha => ⟨ha, rfl⟩
          refine At.wpcE [12] (by kernel_rfl) (by kernel_rfl) (.cons [8, 9, 10, 11] rfl (by kernel_rfl) ?_ .nil)
          refine At.alloc ze52 rfl (fun b13 w29 F13 => ?_)
          have n_b1_b13 : b1 ≠ b13 := Nat.ne_of_lt (F13.lt hb1)
          have n_b2_b13 : b2 ≠ b13 := Nat.ne_of_lt (F13.lt hb2)
          have n_b12_b13 : b12 ≠ b13 := Nat.ne_of_lt (F13.lt hb12)
          have gb13 := F13.ge hB
          replace hb1 := F13.old hb1
          replace hb2 := F13.old hb2
          replace hb12 := F13.old hb12
          have hb13 : w29.heap[b13]? = some (.cells #[.string (⟨#[]⟩ : ByteArray), (.slice none 0 0)] 52) := F13.new
          replace hB := F13.below' hB
          refine At.ops0 ?_
          refine At.wpcN (.cons rfl rfl rfl rfl (fun Lx => ?_) (.cons rfl rfl rfl rfl (fun Lx => ?_) (.cons rfl rfl rfl rfl (fun Lx => ?_) (.cons rfl rfl rfl rfl (fun Lx => ?_) .nil)))) ?_
          · skip
            refine At.move rfl rfl ?_
            refine At.ops0 ?_
            exact fun a ha => ⟨ha, rfl⟩
          · skip
            refine At.extract rfl rfl rfl ?_
            refine At.ops0 ?_
            exact fun a ha => ⟨ha, rfl⟩
          · skip
            refine At.extract rfl rfl rfl ?_
            refine At.ops0 ?_
            exact fun a ha => ⟨ha, rfl⟩
          · skip
            refine At.extract rfl rfl rfl ?_
            refine At.ops0 ?_
            exact fun a ha => ⟨ha, rfl⟩
          refine At.wpcE [14] (by kernel_rfl) (by kernel_rfl) (.cons [10, 11] rfl (by kernel_rfl) ?_ .nil)
          refine At.storeAll rfl rfl hb13 (sz52.trans (congrArg some ((datE_ok hp u1.nm)).size.symm)) ((datE_ok hp u1.nm)).size.symm ((datE_ok hp u1.nm)).one (fun w30 S11 => ?_)
          replace hb1 := S11.other hb1 n_b1_b13
          replace hb2 := S11.other hb2 n_b2_b13
          replace hb12 := S11.other hb12 n_b12_b13
          replace hb13 : w30.heap[b13]? = some (.cells (datE (findCon p.dats u1.nm)).cs 52) := S11.new
          replace hB := S11.below' hB gb13
          refine At.ops0 ?_
          refine At.wpcN (.cons rfl rfl rfl rfl (fun Lx => ?_) (.cons rfl rfl rfl rfl (fun Lx => ?_) .nil)) ?_
          · skip
            refine At.extract rfl rfl rfl ?_
            refine At.ops0 ?_
            exact fun a ha => ⟨ha, rfl⟩
          · skip
            refine At.extract rfl rfl rfl ?_
            refine At.ops0 ?_
            exact fun a ha => ⟨ha, rfl⟩
          refine At.wpcE [15] (by kernel_rfl) (by kernel_rfl) (.cons [11] rfl (by kernel_rfl) ?_ .nil)
          refine At.storeAll rfl rfl hb12 (sz54.trans (congrArg some ((cnE_ok hp u1.nm)).size.symm)) ((cnE_ok hp u1.nm)).size.symm ((cnE_ok hp u1.nm)).one (fun w31 S12 => ?_)
          replace hb1 := S12.other hb1 n_b1_b12
          replace hb2 := S12.other hb2 n_b2_b12
          replace hb13 := S12.other hb13 n_b12_b13.symm
          replace hb12 : w31.heap[b12]? = some (.cells (cnE (findCon p.dats u1.nm)).cs 54) := S12.new
          replace hB := S12.below' hB gb12
          refine At.ops0 ?_
          refine At.wpcN (.cons rfl rfl rfl rfl (fun Lx => ?_) .nil) ?_
          · skip
            refine At.extract rfl rfl rfl ?_
            refine At.ops0 ?_
            exact fun a ha => ⟨ha, rfl⟩
          refine At.wpcE [16] (by kernel_rfl) (by kernel_rfl) (.cons [] rfl (by kernel_rfl) ?_ .nil)
          refine At.assign rfl rfl ?_
          refine At.ops0 ?_
          refine At.wpcN .nil ?_
          refine At.wpcZ ?_
          exact At.joinedG b13 (Sub.cons rfl (Sub.cons rfl (Sub.cons rfl Sub.nil))) ⟨hB, hb2, hb13, gb13, n_b2_b13⟩
        · skip
          refine At.alloc ze52 rfl (fun b14 w32 F14 => ?_)
          have n_b1_b14 : b1 ≠ b14 := Nat.ne_of_lt (F14.lt hb1)
          have n_b2_b14 : b2 ≠ b14 := Nat.ne_of_lt (F14.lt hb2)
          have n_b12_b14 : b12 ≠ b14 := Nat.ne_of_lt (F14.lt hb12)
          have gb14 := F14.ge hB
          replace hb1 := F14.old hb1
          replace hb2 := F14.old hb2
          replace hb12 := F14.old hb12
          have hb14 : w32.heap[b14]? = some (.cells #[.string (⟨#[]⟩ : ByteArray), (.slice none 0 0)] 52) := F14.new
          replace hB := F14.below' hB
          refine At.ops0 ?_
          refine At.wpcN (.cons rfl rfl rfl rfl (fun Lx => ?_) (.cons rfl rfl rfl rfl (fun Lx => ?_) (.cons rfl rfl rfl rfl (fun Lx => ?_) (.cons rfl rfl rfl rfl (fun Lx => ?_) (.cons rfl rfl rfl rfl (fun Lx => ?_) (.cons rfl rfl rfl rfl (fun Lx => ?_) (.cons rfl rfl rfl rfl (fun Lx => ?_) .nil))))))) ?_
          · skip
            refine At.fieldAddr rfl fo75_0 rfl ?_
            refine At.ops0 ?_
            exact fun a ha => ⟨ha, rfl⟩
          · skip
            refine At.load rfl (Ld.own ag35 (sz35.trans (congrArg some (hp).size.symm)) hb1) rfl ?_
            refine At.ops0 ?_
            exact fun a ha => ⟨ha, rfl⟩
          · skip
            refine At.fieldAddr rfl fo33_6 rfl ?_
            refine At.ops0 ?_
            exact fun a ha => ⟨ha, rfl⟩
          · skip
            refine At.load rfl (Ld.ownCell ag25 hb2 (ht).c6) rfl ?_
            refine At.ops0 ?_
            exact fun a ha => ⟨ha, rfl⟩
          · skip
            refine At.indexAddr (i := 0) rfl rfl ((ht).armsAt).okL (lt_of_some hu1) el25 sz71 rfl ?_
            refine At.ops0 ?_
            exact fun a ha => ⟨ha, rfl⟩
          · skip
            refine At.fieldAddr rfl fo71_0 rfl ?_
            refine At.ops0 ?_
            exact fun a ha => ⟨ha, rfl⟩
          · skip
            refine At.load rfl (Ld.cell ag9 (cell_keep ((((ht).armsAt).row hu1).get (((ht).arm hu1)).c0) hB)) rfl ?_
            refine At.ops0 ?_
            exact fun a ha => ⟨ha, rfl⟩
          refine At.wpcE [7] (by kernel_rfl) (by kernel_rfl) (.cons [] rfl (by kernel_rfl) ?_ .nil)
          refine At.call en18 rfl rfl (con_any p u1.nm _ ((hp).keep hB) hz.hl hz.ho hz.hc) (fun e w33 hR => ?_)
          obtain ⟨rfl, hbl6⟩ := hR
          refine ⟨_, rfl, ?_⟩
          replace hb1 := Below.old hbl6 hb1
          replace hb2 := Below.old hbl6 hb2
          replace hb12 := Below.old hbl6 hb12
          replace hb14 := Below.old hbl6 hb14
          replace hB := Below.andThen hB hbl6
          refine At.ops0 ?_
          refine At.wpcN .nil ?_
          refine At.wpcS (i := 8) (d := 12) (.tuple #[.agg (datE (findCon p.dats u1.nm)).cs, .agg (cnE (findCon p.dats u1.nm)).cs, .bool ((findCon p.dats u1.nm).isSome)]) (by kernel_rfl) rfl rfl rfl (fun Lx => ?_) ?_
          · skip
            refine At.move rfl rfl ?_
            refine At.ops0 ?_
            exact fun a ha => ⟨ha, rfl⟩
          refine At.wpcS (i := 9) (d := 21) (.agg (datE (findCon p.dats u1.nm)).cs) (by kernel_rfl) rfl rfl rfl (fun Lx => ?_) ?_
          · skip
            refine At.extract rfl rfl rfl ?_
            refine At.ops0 ?_
            exact fun a ha => ⟨ha, rfl⟩
          refine At.wpcS (i := 10) (d := 22) (.agg (cnE (findCon p.dats u1.nm)).cs) (by kernel_rfl) rfl rfl rfl (fun Lx => ?_) ?_
          · skip
            refine At.extract rfl rfl rfl ?_
            refine At.ops0 ?_
            exact fun a ha => ⟨ha, rfl⟩
          refine At.wpcS (i := 11) (d := 23) (.bool ((findCon p.dats u1.nm).isSome)) (by kernel_rfl) rfl rfl rfl (fun Lx => ?_) ?_
          · skip
            refine At.extract rfl rfl rfl ?_
            refine At.ops0 ?_
            exact fun a ha => ⟨ha, rfl⟩
          refine At.wpcE [14] (by kernel_rfl) (by kernel_rfl) (.cons [10, 11] rfl (by kernel_rfl) ?_ .nil)
          refine At.storeAll rfl rfl hb14 (sz52.trans (congrArg some ((datE_ok hp u1.nm)).size.symm)) ((datE_ok hp u1.nm)).size.symm ((datE_ok hp u1.nm)).one (fun w34 S13 => ?_)
          replace hb1 := S13.other hb1 n_b1_b14
          replace hb2 := S13.other hb2 n_b2_b14
          replace hb12 := S13.other hb12 n_b12_b14
          replace hb14 : w34.heap[b14]? = some (.cells (datE (findCon p.dats u1.nm)).cs 52) := S13.new
          replace hB := S13.below' hB gb14
          refine At.ops0 ?_
          refine At.wpcN (.cons rfl rfl rfl rfl (fun Lx => ?_) (.cons rfl rfl rfl rfl (fun Lx => ?_) .nil)) ?_
          · skip
            refine At.extract rfl rfl rfl ?_
            refine At.ops0 ?_
            exact fun a ha => ⟨ha, rfl⟩
          · skip
            refine At.extract rfl rfl rfl ?_
            refine At.ops0 ?_
            exact fun a ha => ⟨ha, rfl⟩
          refine At.wpcE [15] (by kernel_rfl) (by kernel_rfl) (.cons [11] rfl (by kernel_rfl) ?_ .nil)
          refine At.storeAll rfl rfl hb12 (sz54.trans (congrArg some ((cnE_ok hp u1.nm)).size.symm)) ((cnE_ok hp u1.nm)).size.symm ((cnE_ok hp u1.nm)).one (fun w35 S14 => ?_)
          replace hb1 := S14.other hb1 n_b1_b12
          replace hb2 := S14.other hb2 n_b2_b12
          replace hb14 := S14.other hb14 n_b12_b14.symm
          replace hb12 : w35.heap[b12]? = some (.cells (cnE (findCon p.dats u1.nm)).cs 54) := S14.new
          replace hB := S14.below' hB gb12
          refine At.ops0 ?_
          refine At.wpcN (.cons rfl rfl rfl rfl (fun Lx => ?_) .nil) ?_
          · skip
            refine At.extract rfl rfl rfl ?_
            refine At.ops0 ?_
            exact fun a ha => ⟨ha, rfl⟩
          refine At.wpcE [16] (by kernel_rfl) (by kernel_rfl) (.cons [] rfl (by kernel_rfl) ?_ .nil)
          refine At.assign rfl rfl ?_
          refine At.ops0 ?_
          refine At.wpcN .nil ?_
          refine At.wpcZ ?_
          exact At.joinedG b14 (Sub.cons rfl (Sub.cons rfl (Sub.cons rfl Sub.nil))) ⟨hB, hb2, hb14, gb14, n_b2_b14⟩
    · skip
      clear hB hb1 hb2
      obtain ⟨hB, hb2, hb3, gb3, n_b2_b3⟩ := hS
      show At _ _ [(3, .pointer (some ⟨b2, 0, none⟩)), (5, .pointer (some ⟨b3, 0, none⟩)), (7, .bool ((findCon p.dats u1.nm).isSome))] _ _
      refine At.thenN ?_
      refine At.seq ?_
      refine At.region ?_
      refine At.move rfl rfl ?_
      refine At.move rfl rfl ?_
      refine At.cases ((findCon p.dats u1.nm).isSome) (fun hg1 => ?_) (fun hg1 => ?_)
      · skip
        refine At.set (d := 25) (u := .bool true) rfl (congrArg Value.bool hg1) ?_
        refine At.yes rfl rfl rfl rfl ?_
        refine At.fieldAddr rfl fo52_1 rfl ?_
        refine At.yes rfl rfl rfl rfl ?_
        refine At.load rfl (Ld.ownCell ag50 hb3 ((datE_ok hp u1.nm)).c1) rfl ?_
        refine At.yes rfl rfl rfl rfl ?_
        refine At.fieldAddr rfl fo33_6 rfl ?_
        refine At.yes rfl rfl rfl rfl ?_
        refine At.load rfl (Ld.ownCell ag25 hb2 (ht).c6) rfl ?_
        refine At.yes rfl rfl rfl rfl ?_
        refine At.call en61 rfl rfl (equalArms_any ((datE (findCon p.dats u1.nm)).cv) ((datE (findCon p.dats u1.nm)).cons) t.av t.arms _ ((((datE_ok hp u1.nm)).consAt).keep hB) (fun u hu => (((datE_ok hp u1.nm)).conOk u hu).keep hB) (((ht).armsAt).keep hB) (fun u hu => ((ht).arms u hu).keep hB) (Nat.le_trans (hz.datE _) (by decide)) hvl) (fun e w36 hR => ?_)
        obtain ⟨rfl, hbl7⟩ := hR
        refine ⟨_, rfl, ?_⟩
        replace hb2 := Below.old hbl7 hb2
        replace hb3 := Below.old hbl7 hb3
        replace hB := Below.andThen hB hbl7
        refine At.pickT rfl rfl rfl ?_
        refine At.assign rfl rfl ?_
        refine At.ops0 ?_
        refine At.thenN ?_
        refine At.retc ?_
        refine At.doneR (ResV.tmp rfl ResV.nil) ?_
        exact ⟨congrArg Ending.returned (congrArg Value.bool ((matchOk_eq hu1).trans (by rw [hg1]; first | rfl | exact Bool.true_and _)).symm), hB⟩
      · skip
        refine At.set (d := 25) (u := .bool false) rfl (congrArg Value.bool hg1) ?_
        refine At.no rfl rfl rfl rfl rfl rfl rfl ?_
        refine At.no rfl rfl rfl rfl rfl rfl rfl ?_
        refine At.no rfl rfl rfl rfl rfl rfl rfl ?_
        refine At.no rfl rfl rfl rfl rfl rfl rfl ?_
        refine At.no rfl rfl rfl rfl rfl rfl rfl ?_
        refine At.pickF rfl rfl rfl ?_
        refine At.assign rfl rfl ?_
        refine At.ops0 ?_
        refine At.thenN ?_
        refine At.retc ?_
        refine At.doneR (ResV.tmp rfl ResV.nil) ?_
        exact ⟨congrArg Ending.returned (congrArg Value.bool ((matchOk_eq hu1).trans (by rw [hg1]; first | rfl | exact Bool.true_and _)).symm), hB⟩
theorem handler_any (p : Pr) (t : Tm) (w : World) (hp : PrOk w p) (hz : PrSz p) (ht : TmOk w t) :
    Calls Try.prog 53 ([.agg p.cs, .agg t.cs] : List Value).toArray w fun e w' => e = .returned (.bool (handlerOk p.effs t)) ∧ Below w.heap.size w w' := by
  have hB := Below.refl w.heap.size w
  refine At.enter (N := 84) Try.func53 rfl rfl (by simp) [(0, .agg p.cs), (1, .agg t.cs)] (by simp) ?_
  refine At.seq ?_
  refine At.region ?_
  refine At.box rfl rfl (fun b1 w1 F1 => ?_)
  have gb1 := F1.ge hB
  have hb1 : w1.heap[b1]? = some (.cells p.cs 75) := F1.new
  replace hB := F1.below' hB
  refine At.box rfl rfl (fun b2 w2 F2 => ?_)
  have n_b1_b2 : b1 ≠ b2 := Nat.ne_of_lt (F2.lt hb1)
  have gb2 := F2.ge hB
  replace hb1 := F2.old hb1
  have hb2 : w2.heap[b2]? = some (.cells t.cs 33) := F2.new
  replace hB := F2.below' hB
  refine At.assign rfl rfl ?_
  refine At.ops0 ?_
  refine At.thenN ?_
  refine At.seq ?_
  refine At.region ?_
  refine At.fieldAddr rfl fo75_0 rfl ?_
  refine At.load rfl (Ld.own ag35 (sz35.trans (congrArg some (hp).size.symm)) hb1) rfl ?_
  refine At.fieldAddr rfl fo33_2 rfl ?_
  refine At.load rfl (Ld.ownCell ag9 hb2 (ht).c2) rfl ?_
  refine At.call en16 rfl rfl (handled_any p t.nm _ ((hp).keep hB) hz.hl.1) (fun e w3 hR => ?_)
  obtain ⟨rfl, hbl1⟩ := hR
  refine ⟨_, rfl, ?_⟩
  replace hb1 := Below.old hbl1 hb1
  replace hb2 := Below.old hbl1 hb2
  replace hB := Below.andThen hB hbl1
  refine At.move rfl rfl ?_
  refine At.extract rfl rfl rfl ?_
  refine At.extract rfl rfl rfl ?_
  refine At.alloc ze43 rfl (fun b3 w4 F3 => ?_)
  have n_b1_b3 : b1 ≠ b3 := Nat.ne_of_lt (F3.lt hb1)
  have n_b2_b3 : b2 ≠ b3 := Nat.ne_of_lt (F3.lt hb2)
  have gb3 := F3.ge hB
  replace hb1 := F3.old hb1
  replace hb2 := F3.old hb2
  have hb3 : w4.heap[b3]? = some (.cells #[.string (⟨#[]⟩ : ByteArray), (.slice none 0 0)] 43) := F3.new
  replace hB := F3.below' hB
  refine At.storeAll rfl rfl hb3 (sz43.trans (congrArg some ((hdE_ok hp t.nm)).size.symm)) ((hdE_ok hp t.nm)).size.symm ((hdE_ok hp t.nm)).one (fun w5 S1 => ?_)
  replace hb1 := S1.other hb1 n_b1_b3
  replace hb2 := S1.other hb2 n_b2_b3
  replace hb3 : w5.heap[b3]? = some (.cells (hdE (findHd p.effs t.nm)).cs 43) := S1.new
  replace hB := S1.below' hB gb3
  refine At.assign rfl rfl ?_
  refine At.ops0 ?_
  refine At.thenN ?_
  refine At.seq ?_
  refine At.seq ?_
  have hzh := hz.hdE t.nm
  refine At.region ?_
  refine At.move rfl rfl ?_
  refine At.not rfl rfl ?_
  refine At.move rfl rfl ?_
  refine At.cases ((!(findHd p.effs t.nm).isSome)) (fun hg1 => ?_) (fun hg1 => ?_)
  · skip
    refine At.set (d := 20) (u := .bool true) rfl (congrArg Value.bool hg1) ?_
    refine At.no rfl rfl rfl rfl rfl rfl rfl ?_
    refine At.no rfl rfl rfl rfl rfl rfl rfl ?_
    refine At.no rfl rfl rfl rfl rfl rfl rfl ?_
    refine At.no rfl rfl rfl rfl rfl rfl rfl ?_
    refine At.no rfl rfl rfl rfl rfl rfl rfl ?_
    refine At.no rfl rfl rfl rfl rfl rfl rfl ?_
    refine At.no rfl rfl rfl rfl rfl rfl rfl ?_
    refine At.no rfl rfl rfl rfl rfl rfl rfl ?_
    refine At.pickT rfl rfl rfl ?_
    refine At.move rfl rfl ?_
    refine At.no rfl rfl rfl rfl rfl rfl rfl ?_
    refine At.no rfl rfl rfl rfl rfl rfl rfl ?_
    refine At.no rfl rfl rfl rfl rfl rfl rfl ?_
    refine At.no rfl rfl rfl rfl rfl rfl rfl ?_
    refine At.no rfl rfl rfl rfl rfl rfl rfl ?_
    refine At.no rfl rfl rfl rfl rfl rfl rfl ?_
    refine At.pickT rfl rfl rfl ?_
    refine At.move rfl rfl ?_
    refine At.no rfl rfl rfl rfl rfl rfl rfl ?_
    refine At.no rfl rfl rfl rfl rfl rfl rfl ?_
    refine At.no rfl rfl rfl rfl rfl rfl rfl ?_
    refine At.no rfl rfl rfl rfl rfl rfl rfl ?_
    refine At.no rfl rfl rfl rfl rfl rfl rfl ?_
    refine At.no rfl rfl rfl rfl rfl rfl rfl ?_
    refine At.no rfl rfl rfl rfl rfl rfl rfl ?_
    refine At.pickT rfl rfl rfl ?_
    refine At.ops0 ?_
    refine At.thenN ?_
    refine At.condT rfl ?_
    refine At.seq ?_
    refine At.region ?_
    refine At.assign rfl rfl ?_
    refine At.ops0 ?_
    refine At.thenN ?_
    refine At.retc ?_
    refine At.thenR ?_
    refine At.doneR (ResV.tmp rfl ResV.nil) ?_
    exact ⟨congrArg Ending.returned (congrArg Value.bool (Eq.symm (handlerOk_ne (by simpa using hg1)))), hB⟩
  · skip
    refine At.set (d := 20) (u := .bool false) rfl (congrArg Value.bool hg1) ?_
    refine At.yes rfl rfl rfl rfl ?_
    refine At.fieldAddr rfl fo33_6 rfl ?_
    refine At.yes rfl rfl rfl rfl ?_
    refine At.load rfl (Ld.ownCell ag25 hb2 (ht).c6) rfl ?_
    refine At.yes rfl rfl rfl rfl ?_
    refine At.lenSl rfl ((ht).armsAt).okL el25 rfl ?_
    refine At.yes rfl rfl rfl rfl ?_
    refine At.fieldAddr rfl fo43_1 rfl ?_
    refine At.yes rfl rfl rfl rfl ?_
    refine At.load rfl (Ld.ownCell ag41 hb3 ((hdE_ok hp t.nm)).c1) rfl ?_
    refine At.yes rfl rfl rfl rfl ?_
    refine At.lenSl rfl (((hdE_ok hp t.nm)).opsAt).okL el41 rfl ?_
    refine At.yes rfl rfl rfl rfl ?_
    refine At.addI rfl rfl rfl (by omega) ?_
    refine At.yes rfl rfl rfl rfl ?_
    refine At.neI rfl rfl rfl ?_
    refine At.pickF rfl rfl rfl ?_
    refine At.move rfl rfl ?_
    refine At.cases ((!decide ((t.arms.length : Int) = (1 + ((hdE (findHd p.effs t.nm)).ops.length : Int))))) (fun hg2 => ?_) (fun hg2 => ?_)
    · skip
      refine At.set (d := 30) (u := .bool true) rfl (congrArg Value.bool hg2) ?_
      have hg2' := hg2; simp only [Bool.not_eq_true', Bool.not_eq_false', decide_eq_true_eq, decide_eq_false_iff_not] at hg2'
      refine At.no rfl rfl rfl rfl rfl rfl rfl ?_
      refine At.no rfl rfl rfl rfl rfl rfl rfl ?_
      refine At.no rfl rfl rfl rfl rfl rfl rfl ?_
      refine At.no rfl rfl rfl rfl rfl rfl rfl ?_
      refine At.no rfl rfl rfl rfl rfl rfl rfl ?_
      refine At.no rfl rfl rfl rfl rfl rfl rfl ?_
      refine At.pickT rfl rfl rfl ?_
      refine At.move rfl rfl ?_
      refine At.no rfl rfl rfl rfl rfl rfl rfl ?_
      refine At.no rfl rfl rfl rfl rfl rfl rfl ?_
      refine At.no rfl rfl rfl rfl rfl rfl rfl ?_
      refine At.no rfl rfl rfl rfl rfl rfl rfl ?_
      refine At.no rfl rfl rfl rfl rfl rfl rfl ?_
      refine At.no rfl rfl rfl rfl rfl rfl rfl ?_
      refine At.no rfl rfl rfl rfl rfl rfl rfl ?_
      refine At.pickT rfl rfl rfl ?_
      refine At.ops0 ?_
      refine At.thenN ?_
      refine At.condT rfl ?_
      refine At.seq ?_
      refine At.region ?_
      refine At.assign rfl rfl ?_
      refine At.ops0 ?_
      refine At.thenN ?_
      refine At.retc ?_
      refine At.thenR ?_
      refine At.doneR (ResV.tmp rfl ResV.nil) ?_
      exact ⟨congrArg Ending.returned (congrArg Value.bool (Eq.symm (handlerOk_len (by omega)))), hB⟩
    · skip
      refine At.set (d := 30) (u := .bool false) rfl (congrArg Value.bool hg2) ?_
      have hg2' := hg2; simp only [Bool.not_eq_true', Bool.not_eq_false', decide_eq_true_eq, decide_eq_false_iff_not] at hg2'
      refine At.yes rfl rfl rfl rfl ?_
      refine At.fieldAddr rfl fo33_6 rfl ?_
      refine At.yes rfl rfl rfl rfl ?_
      refine At.load rfl (Ld.ownCell ag25 hb2 (ht).c6) rfl ?_
      refine At.yes rfl rfl rfl rfl ?_
      obtain ⟨u1, hu1⟩ := some_of_lt (l := t.arms) (i := 0) (by omega)
      refine At.indexAddr (i := 0) rfl rfl ((ht).armsAt).okL (lt_of_some hu1) el25 sz71 rfl ?_
      refine At.yes rfl rfl rfl rfl ?_
      refine At.fieldAddr rfl fo71_0 rfl ?_
      refine At.yes rfl rfl rfl rfl ?_
      refine At.load rfl (Ld.cell ag9 (cell_keep ((((ht).armsAt).row hu1).get (((ht).arm hu1)).c0) hB)) rfl ?_
      refine At.yes rfl rfl rfl rfl ?_
      refine At.neS rfl rfl rfl ?_
      refine At.pickF rfl rfl rfl ?_
      refine At.move rfl rfl ?_
      refine At.cases ((!decide (u1.nm = (⟨#[114, 101, 116, 117, 114, 110]⟩ : ByteArray)))) (fun hg3 => ?_) (fun hg3 => ?_)
      · skip
        refine At.set (d := 38) (u := .bool true) rfl (congrArg Value.bool hg3) ?_
        have hg3' := hg3; simp only [Bool.not_eq_true', Bool.not_eq_false', decide_eq_true_eq, decide_eq_false_iff_not] at hg3'
        refine At.no rfl rfl rfl rfl rfl rfl rfl ?_
        refine At.no rfl rfl rfl rfl rfl rfl rfl ?_
        refine At.no rfl rfl rfl rfl rfl rfl rfl ?_
        refine At.no rfl rfl rfl rfl rfl rfl rfl ?_
        refine At.no rfl rfl rfl rfl rfl rfl rfl ?_
        refine At.no rfl rfl rfl rfl rfl rfl rfl ?_
        refine At.no rfl rfl rfl rfl rfl rfl rfl ?_
        refine At.pickT rfl rfl rfl ?_
        refine At.ops0 ?_
        refine At.thenN ?_
        refine At.condT rfl ?_
        refine At.seq ?_
        refine At.region ?_
        refine At.assign rfl rfl ?_
        refine At.ops0 ?_
        refine At.thenN ?_
        refine At.retc ?_
        refine At.thenR ?_
        refine At.doneR (ResV.tmp rfl ResV.nil) ?_
        exact ⟨congrArg Ending.returned (congrArg Value.bool (Eq.symm (handlerOk_nm hu1 (by simpa [ret_] using hg3')))), hB⟩
      · skip
        refine At.set (d := 38) (u := .bool false) rfl (congrArg Value.bool hg3) ?_
        have hg3' := hg3; simp only [Bool.not_eq_true', Bool.not_eq_false', decide_eq_true_eq, decide_eq_false_iff_not] at hg3'
        refine At.yes rfl rfl rfl rfl ?_
        refine At.fieldAddr rfl fo33_6 rfl ?_
        refine At.yes rfl rfl rfl rfl ?_
        refine At.load rfl (Ld.ownCell ag25 hb2 (ht).c6) rfl ?_
        refine At.yes rfl rfl rfl rfl ?_
        refine At.indexAddr (i := 0) rfl rfl ((ht).armsAt).okL (lt_of_some hu1) el25 sz71 rfl ?_
        refine At.yes rfl rfl rfl rfl ?_
        refine At.fieldAddr rfl fo71_1 rfl ?_
        refine At.yes rfl rfl rfl rfl ?_
        refine At.load rfl (Ld.cell ag27 (cell_keep ((((ht).armsAt).row hu1).get (((ht).arm hu1)).c1) hB)) rfl ?_
        refine At.yes rfl rfl rfl rfl ?_
        refine At.lenSl rfl ((((ht).arm hu1)).varsAt).ok el27 rfl ?_
        refine At.yes rfl rfl rfl rfl ?_
        refine At.neI rfl rfl rfl ?_
        refine At.pickF rfl rfl rfl ?_
        refine At.ops0 ?_
        refine At.thenN ?_
        refine At.cond (b := (!decide ((u1.vars.length : Int) = 1))) rfl (fun hc1 => ?_) (fun hc1 => ?_)
        · skip
          have hc1' := hc1; simp only [Bool.not_eq_true', Bool.not_eq_false', decide_eq_true_eq, decide_eq_false_iff_not] at hc1'
          refine At.seq ?_
          refine At.region ?_
          refine At.assign rfl rfl ?_
          refine At.ops0 ?_
          refine At.thenN ?_
          refine At.retc ?_
          refine At.thenR ?_
          refine At.doneR (ResV.tmp rfl ResV.nil) ?_
          exact ⟨congrArg Ending.returned (congrArg Value.bool (Eq.symm (handlerOk_vars hu1 (by omega)))), hB⟩
        · skip
          have hc1' := hc1; simp only [Bool.not_eq_true', Bool.not_eq_false', decide_eq_true_eq, decide_eq_false_iff_not] at hc1'
          refine At.skip ?_
          refine At.thenN ?_
          refine At.seq ?_
          refine At.seq ?_
          refine At.region ?_
          refine At.fieldAddr rfl fo43_1 rfl ?_
          refine At.load rfl (Ld.ownCell ag41 hb3 ((hdE_ok hp t.nm)).c1) rfl ?_
          refine At.lenSl rfl (((hdE_ok hp t.nm)).opsAt).okL el41 rfl ?_
          refine At.move rfl rfl ?_
          refine At.ops0 ?_
          refine At.thenN ?_
          refine At.block ?_
          refine At.loop (Nat) (fun k => [(3, .pointer (some ⟨b2, 0, none⟩)), (48, (hdE (findHd p.effs t.nm)).ov), (49, .int .i64 ((hdE (findHd p.effs t.nm)).ops.length : Int)), (50, .int .i64 (k : Int))]) (fun k w6 => Below w.heap.size w w6 ∧ w6.heap[b2]? = some (.cells t.cs 33) ∧ (k ≤ (hdE (findHd p.effs t.nm)).ops.length) ∧ (eq2 hdArm ((hdE (findHd p.effs t.nm)).ops.drop k) ((t.arms.drop 1).drop k) = eq2 hdArm (hdE (findHd p.effs t.nm)).ops (t.arms.drop 1))) (fun k => (hdE (findHd p.effs t.nm)).ops.length - k) (0 : Nat) (Sub.cons rfl (Sub.cons rfl (Sub.cons rfl (Sub.cons rfl Sub.nil)))) ⟨hB, hb2, (Nat.zero_le _), (rfl)⟩ (fun k w6 hI => ?_)
          clear hB hb1 hb2 hb3
          obtain ⟨hB, hb2, hkb, hn⟩ := hI
          show At _ _ [(3, .pointer (some ⟨b2, 0, none⟩)), (48, (hdE (findHd p.effs t.nm)).ov), (49, .int .i64 ((hdE (findHd p.effs t.nm)).ops.length : Int)), (50, .int .i64 (k : Int))] _ _
          refine At.seq ?_
          refine At.region ?_
          refine At.lss rfl rfl rfl ?_
          refine At.ops0 ?_
          refine At.thenN ?_
          refine At.seq ?_
          refine At.cond (b := decide ((k : Int) < ((hdE (findHd p.effs t.nm)).ops.length : Int))) rfl (fun hc2 => ?_) (fun hc2 => ?_)
          · skip
            have hc2' := of_decide_eq_true hc2
            refine At.skip ?_
            refine At.thenN ?_
            refine At.seq ?_
            refine At.block ?_
            refine At.seq ?_
            refine At.region ?_
            refine At.move rfl rfl ?_
            obtain ⟨u2, hu2⟩ := some_of_lt (l := (hdE (findHd p.effs t.nm)).ops) (i := k) (by omega)
            refine At.indexAddr (i := k) rfl rfl (((hdE_ok hp t.nm)).opsAt).okL (lt_of_some hu2) el41 sz45 rfl ?_
            refine At.load rfl (Ld.row ag45 (sz45.trans (congrArg some ((((hdE_ok hp t.nm)).op hu2)).size.symm)) (((((hdE_ok hp t.nm)).opsAt).row hu2).keep hB)) rfl ?_
            refine At.alloc ze45 rfl (fun b4 w7 F4 => ?_)
            have n_b2_b4 : b2 ≠ b4 := Nat.ne_of_lt (F4.lt hb2)
            have gb4 := F4.ge hB
            replace hb2 := F4.old hb2
            have hb4 : w7.heap[b4]? = some (.cells #[.string (⟨#[]⟩ : ByteArray), .int .i64 0, .string (⟨#[]⟩ : ByteArray), .int .i64 0, (.slice none 0 0), (.slice none 0 0), .int .i64 0, .int .i64 0, .string (⟨#[]⟩ : ByteArray), .int .i64 0, (.slice none 0 0), (.slice none 0 0), .int .i64 0] 45) := F4.new
            replace hB := F4.below' hB
            refine At.assign rfl rfl ?_
            refine At.storeAll rfl rfl hb4 (sz45.trans (congrArg some ((((hdE_ok hp t.nm)).op hu2)).size.symm)) ((((hdE_ok hp t.nm)).op hu2)).size.symm ((((hdE_ok hp t.nm)).op hu2)).one (fun w8 S2 => ?_)
            replace hb2 := S2.other hb2 n_b2_b4
            replace hb4 : w8.heap[b4]? = some (.cells u2.cs 45) := S2.new
            replace hB := S2.below' hB gb4
            refine At.ops0 ?_
            refine At.thenN ?_
            refine At.seq ?_
            refine At.region ?_
            refine At.fieldAddr rfl fo33_6 rfl ?_
            refine At.load rfl (Ld.ownCell ag25 hb2 (ht).c6) rfl ?_
            refine At.move rfl rfl ?_
            refine At.addI rfl rfl rfl (by omega) ?_
            obtain ⟨u3, hu3⟩ := some_of_lt (l := t.arms) (i := (1 + k)) (by omega)
            refine At.indexAddr (i := (1 + k)) rfl rfl ((ht).armsAt).okL (lt_of_some hu3) el25 sz71 rfl ?_
            refine At.load rfl (Ld.row ag71 (sz71.trans (congrArg some (((ht).arm hu3)).size.symm)) ((((ht).armsAt).row hu3).keep hB)) rfl ?_
            refine At.alloc ze71 rfl (fun b5 w9 F5 => ?_)
            have n_b2_b5 : b2 ≠ b5 := Nat.ne_of_lt (F5.lt hb2)
            have n_b4_b5 : b4 ≠ b5 := Nat.ne_of_lt (F5.lt hb4)
            have gb5 := F5.ge hB
            replace hb2 := F5.old hb2
            replace hb4 := F5.old hb4
            have hb5 : w9.heap[b5]? = some (.cells #[.string (⟨#[]⟩ : ByteArray), (.slice none 0 0), .int .i64 0, .int .i64 0, .string (⟨#[]⟩ : ByteArray), .string (⟨#[]⟩ : ByteArray), .int .i64 0, (.slice none 0 0), (.slice none 0 0), .int .i64 0, .string (⟨#[]⟩ : ByteArray), .int .i64 0, (.slice none 0 0), (.slice none 0 0), .int .i64 0, (.slice none 0 0), .int .i64 0, .int .i64 0, .string (⟨#[]⟩ : ByteArray), .int .i64 0, (.slice none 0 0), (.slice none 0 0), .int .i64 0] 71) := F5.new
            replace hB := F5.below' hB
            refine At.storeAll rfl rfl hb5 (sz71.trans (congrArg some (((ht).arm hu3)).size.symm)) (((ht).arm hu3)).size.symm (((ht).arm hu3)).one (fun w10 S3 => ?_)
            replace hb2 := S3.other hb2 n_b2_b5
            replace hb4 := S3.other hb4 n_b4_b5
            replace hb5 : w10.heap[b5]? = some (.cells u3.cs 71) := S3.new
            replace hB := S3.below' hB gb5
            refine At.ops0 ?_
            refine At.thenN ?_
            refine At.seq ?_
            refine At.cases ((!decide (u3.nm = u2.nm))) (fun hg4 => ?_) (fun hg4 => ?_)
            · skip
              have hg4' := hg4; simp only [Bool.not_eq_true', Bool.not_eq_false', decide_eq_true_eq, decide_eq_false_iff_not] at hg4'
              refine At.drawG (n := 22) mixed (by kernel_rfl) rfl (PanicOk.then (PanicOk.block (PanicOk.then (PanicOk.then (PanicOk.block (PanicOk.then PanicOk.body)))))) ?_
              have hB := Below.drewB hB
              have hb2 : _ := (show w10.drew.heap[b2]? = _ from hb2)
              have hb4 : _ := (show w10.drew.heap[b4]? = _ from hb4)
              have hb5 : _ := (show w10.drew.heap[b5]? = _ from hb5)
              refine At.wpcS (i := 0) (d := 61) (.pointer (some ⟨b5, 0 + 0, none⟩)) (by kernel_rfl) rfl rfl rfl (fun Lx => ?_) ?_
              · skip
                refine At.fieldAddr rfl fo71_0 rfl ?_
                refine At.ops0 ?_
                exact fun a ha => ⟨ha, rfl⟩
              refine At.wpcS (i := 1) (d := 62) (.string u3.nm) (by kernel_rfl) rfl rfl rfl (fun Lx => ?_) ?_
              · skip
                refine At.load rfl (Ld.ownCell ag9 hb5 (((ht).arm hu3)).c0) rfl ?_
                refine At.ops0 ?_
                exact fun a ha => ⟨ha, rfl⟩
              refine At.wpcS (i := 2) (d := 63) (.pointer (some ⟨b4, 0 + 0, none⟩)) (by kernel_rfl) rfl rfl rfl (fun Lx => ?_) ?_
              · skip
                refine At.fieldAddr rfl fo45_0 rfl ?_
                refine At.ops0 ?_
                exact fun a ha => ⟨ha, rfl⟩
              refine At.wpcS (i := 3) (d := 64) (.string u2.nm) (by kernel_rfl) rfl rfl rfl (fun Lx => ?_) ?_
              · skip
                refine At.load rfl (Ld.ownCell ag9 hb4 ((((hdE_ok hp t.nm)).op hu2)).c0) rfl ?_
                refine At.ops0 ?_
                exact fun a ha => ⟨ha, rfl⟩
              refine At.wpcS (i := 4) (d := 65) (.bool (!decide (u3.nm = u2.nm))) (by kernel_rfl) rfl rfl rfl (fun Lx => ?_) ?_
              · skip
                refine At.neS rfl rfl rfl ?_
                refine At.ops0 ?_
                exact fun a ha => ⟨ha, rfl⟩
              refine At.set (d := 65) (u := .bool true) rfl (congrArg Value.bool hg4) ?_
              refine At.wpcS (i := 5) (d := 66) (.bool true) (by kernel_rfl) rfl rfl rfl (fun Lx => ?_) ?_
              · skip
                refine At.move rfl rfl ?_
                refine At.ops0 ?_
                exact fun a ha => ⟨ha, rfl⟩
              refine At.wpcS (i := 6) (d := 67) (undef) (by kernel_rfl) rfl rfl rfl (fun Lx => ?_) ?_
              · skip
                refine At.no rfl rfl rfl rfl rfl rfl rfl ?_
                refine At.ops0 ?_
                exact fun a ha => ⟨ha, rfl⟩
              refine At.wpcS (i := 7) (d := 68) (undef) (by kernel_rfl) rfl rfl rfl (fun Lx => ?_) ?_
              · skip
                refine At.no rfl rfl rfl rfl rfl rfl rfl ?_
                refine At.ops0 ?_
                exact fun a ha => ⟨ha, rfl⟩
              refine At.wpcS (i := 8) (d := 69) (undef) (by kernel_rfl) rfl rfl rfl (fun Lx => ?_) ?_
              · skip
                refine At.no rfl rfl rfl rfl rfl rfl rfl ?_
                refine At.ops0 ?_
                exact fun a ha => ⟨ha, rfl⟩
              refine At.wpcS (i := 9) (d := 70) (undef) (by kernel_rfl) rfl rfl rfl (fun Lx => ?_) ?_
              · skip
                refine At.no rfl rfl rfl rfl rfl rfl rfl ?_
                refine At.ops0 ?_
                exact fun a ha => ⟨ha, rfl⟩
              refine At.wpcS (i := 10) (d := 71) (.bool true) (by kernel_rfl) rfl rfl rfl (fun Lx => ?_) ?_
              · skip
                refine At.pickT rfl rfl rfl ?_
                refine At.ops0 ?_
                exact fun a ha => ⟨ha, rfl⟩
              refine At.wpcS (i := 11) (d := 72) (.bool true) (by kernel_rfl) rfl rfl rfl (fun Lx => ?_) ?_
              · skip
                refine At.move rfl rfl ?_
                refine At.ops0 ?_
                exact fun a ha => ⟨ha, rfl⟩
              refine At.wpcS (i := 12) (d := 73) (undef) (by kernel_rfl) rfl rfl rfl (fun Lx => ?_) ?_
              · skip
                refine At.no rfl rfl rfl rfl rfl rfl rfl ?_
                refine At.ops0 ?_
                exact fun a ha => ⟨ha, rfl⟩
              refine At.wpcS (i := 13) (d := 74) (undef) (by kernel_rfl) rfl rfl rfl (fun Lx => ?_) ?_
              · skip
                refine At.no rfl rfl rfl rfl rfl rfl rfl ?_
                refine At.ops0 ?_
                exact fun a ha => ⟨ha, rfl⟩
              refine At.wpcS (i := 14) (d := 75) (undef) (by kernel_rfl) rfl rfl rfl (fun Lx => ?_) ?_
              · skip
                refine At.no rfl rfl rfl rfl rfl rfl rfl ?_
                refine At.ops0 ?_
                exact fun a ha => ⟨ha, rfl⟩
              refine At.wpcS (i := 15) (d := 76) (undef) (by kernel_rfl) rfl rfl rfl (fun Lx => ?_) ?_
              · skip
                refine At.no rfl rfl rfl rfl rfl rfl rfl ?_
                refine At.ops0 ?_
                exact fun a ha => ⟨ha, rfl⟩
              refine At.wpcS (i := 16) (d := 77) (undef) (by kernel_rfl) rfl rfl rfl (fun Lx => ?_) ?_
              · skip
                refine At.no rfl rfl rfl rfl rfl rfl rfl ?_
                refine At.ops0 ?_
                exact fun a ha => ⟨ha, rfl⟩
              refine At.wpcS (i := 17) (d := 78) (undef) (by kernel_rfl) rfl rfl rfl (fun Lx => ?_) ?_
              · skip
                refine At.no rfl rfl rfl rfl rfl rfl rfl ?_
                refine At.ops0 ?_
                exact fun a ha => ⟨ha, rfl⟩
              refine At.wpcS (i := 18) (d := 79) (undef) (by kernel_rfl) rfl rfl rfl (fun Lx => ?_) ?_
              · skip
                refine At.no rfl rfl rfl rfl rfl rfl rfl ?_
                refine At.ops0 ?_
                exact fun a ha => ⟨ha, rfl⟩
              refine At.wpcS (i := 19) (d := 80) (undef) (by kernel_rfl) rfl rfl rfl (fun Lx => ?_) ?_
              · skip
                refine At.no rfl rfl rfl rfl rfl rfl rfl ?_
                refine At.ops0 ?_
                exact fun a ha => ⟨ha, rfl⟩
              refine At.wpcS (i := 20) (d := 81) (undef) (by kernel_rfl) rfl rfl rfl (fun Lx => ?_) ?_
              · skip
                refine At.no rfl rfl rfl rfl rfl rfl rfl ?_
                refine At.ops0 ?_
                exact fun a ha => ⟨ha, rfl⟩
              refine At.wpcS (i := 21) (d := 82) (.bool true) (by kernel_rfl) rfl rfl rfl (fun Lx => ?_) ?_
              · skip
                refine At.pickT rfl rfl rfl ?_
                refine At.ops0 ?_
                exact fun a ha => ⟨ha, rfl⟩
              refine At.wpcZ ?_
              refine At.thenN ?_
              refine At.condT rfl ?_
              refine At.seq ?_
              refine At.region ?_
              refine At.assign rfl rfl ?_
              refine At.ops0 ?_
              refine At.thenN ?_
              refine At.retc ?_
              refine At.inR ?_
              refine At.thenR ?_
              refine At.thenR ?_
              refine At.inR ?_
              refine At.thenR ?_
              refine At.doneR (ResV.tmp rfl ResV.nil) ?_
              have hgo := handlerOk_go (effs := p.effs) (t := t) hu1 (by simpa using hg1) (by simpa [ret_] using hg3') (by omega)
              have hdr : (t.arms.drop 1)[k]? = some u3 := by rw [List.getElem?_drop]; exact hu3
              have hna : hdArm u2 u3 = false := hdArm_nm (by simpa using hg4')
              exact ⟨congrArg Ending.returned (congrArg Value.bool (Eq.symm (by rw [hgo, ← hn, eq2_step hu2 hdr, hna]; rfl))), hB⟩
            · skip
              have hg4' := hg4; simp only [Bool.not_eq_true', Bool.not_eq_false', decide_eq_true_eq, decide_eq_false_iff_not] at hg4'
              refine At.cases ((!decide ((u3.vars.length : Int) = 2))) (fun hg5 => ?_) (fun hg5 => ?_)
              · skip
                have hg5' := hg5; simp only [Bool.not_eq_true', Bool.not_eq_false', decide_eq_true_eq, decide_eq_false_iff_not] at hg5'
                refine At.drawG (n := 22) mixed (by kernel_rfl) rfl (PanicOk.then (PanicOk.block (PanicOk.then (PanicOk.then (PanicOk.block (PanicOk.then PanicOk.body)))))) ?_
                have hB := Below.drewB hB
                have hb2 : _ := (show w10.drew.heap[b2]? = _ from hb2)
                have hb4 : _ := (show w10.drew.heap[b4]? = _ from hb4)
                have hb5 : _ := (show w10.drew.heap[b5]? = _ from hb5)
                refine At.wpcS (i := 0) (d := 61) (.pointer (some ⟨b5, 0 + 0, none⟩)) (by kernel_rfl) rfl rfl rfl (fun Lx => ?_) ?_
                · skip
                  refine At.fieldAddr rfl fo71_0 rfl ?_
                  refine At.ops0 ?_
                  exact fun a ha => ⟨ha, rfl⟩
                refine At.wpcS (i := 1) (d := 62) (.string u3.nm) (by kernel_rfl) rfl rfl rfl (fun Lx => ?_) ?_
                · skip
                  refine At.load rfl (Ld.ownCell ag9 hb5 (((ht).arm hu3)).c0) rfl ?_
                  refine At.ops0 ?_
                  exact fun a ha => ⟨ha, rfl⟩
                refine At.wpcS (i := 2) (d := 63) (.pointer (some ⟨b4, 0 + 0, none⟩)) (by kernel_rfl) rfl rfl rfl (fun Lx => ?_) ?_
                · skip
                  refine At.fieldAddr rfl fo45_0 rfl ?_
                  refine At.ops0 ?_
                  exact fun a ha => ⟨ha, rfl⟩
                refine At.wpcS (i := 3) (d := 64) (.string u2.nm) (by kernel_rfl) rfl rfl rfl (fun Lx => ?_) ?_
                · skip
                  refine At.load rfl (Ld.ownCell ag9 hb4 ((((hdE_ok hp t.nm)).op hu2)).c0) rfl ?_
                  refine At.ops0 ?_
                  exact fun a ha => ⟨ha, rfl⟩
                refine At.wpcS (i := 4) (d := 65) (.bool (!decide (u3.nm = u2.nm))) (by kernel_rfl) rfl rfl rfl (fun Lx => ?_) ?_
                · skip
                  refine At.neS rfl rfl rfl ?_
                  refine At.ops0 ?_
                  exact fun a ha => ⟨ha, rfl⟩
                refine At.set (d := 65) (u := .bool false) rfl (congrArg Value.bool hg4) ?_
                refine At.wpcS (i := 5) (d := 66) (.bool false) (by kernel_rfl) rfl rfl rfl (fun Lx => ?_) ?_
                · skip
                  refine At.move rfl rfl ?_
                  refine At.ops0 ?_
                  exact fun a ha => ⟨ha, rfl⟩
                refine At.wpcS (i := 6) (d := 67) (.pointer (some ⟨b5, 0 + 1, none⟩)) (by kernel_rfl) rfl rfl rfl (fun Lx => ?_) ?_
                · skip
                  refine At.yes rfl rfl rfl rfl ?_
                  refine At.fieldAddr rfl fo71_1 rfl ?_
                  refine At.ops0 ?_
                  exact fun a ha => ⟨ha, rfl⟩
                refine At.wpcS (i := 7) (d := 68) (u3.vv) (by kernel_rfl) rfl rfl rfl (fun Lx => ?_) ?_
                · skip
                  refine At.yes rfl rfl rfl rfl ?_
                  refine At.load rfl (Ld.ownCell ag27 hb5 (((ht).arm hu3)).c1) rfl ?_
                  refine At.ops0 ?_
                  exact fun a ha => ⟨ha, rfl⟩
                refine At.wpcS (i := 8) (d := 69) (.int .i64 (u3.vars.length : Int)) (by kernel_rfl) rfl rfl rfl (fun Lx => ?_) ?_
                · skip
                  refine At.yes rfl rfl rfl rfl ?_
                  refine At.lenSl rfl ((((ht).arm hu3)).varsAt).ok el27 rfl ?_
                  refine At.ops0 ?_
                  exact fun a ha => ⟨ha, rfl⟩
                refine At.wpcS (i := 9) (d := 70) (.bool (!decide ((u3.vars.length : Int) = 2))) (by kernel_rfl) rfl rfl rfl (fun Lx => ?_) ?_
                · skip
                  refine At.yes rfl rfl rfl rfl ?_
                  refine At.neI rfl rfl rfl ?_
                  refine At.ops0 ?_
                  exact fun a ha => ⟨ha, rfl⟩
                refine At.set (d := 70) (u := .bool true) rfl (congrArg Value.bool hg5) ?_
                refine At.wpcS (i := 10) (d := 71) (.bool true) (by kernel_rfl) rfl rfl rfl (fun Lx => ?_) ?_
                · skip
                  refine At.pickF rfl rfl rfl ?_
                  refine At.ops0 ?_
                  exact fun a ha => ⟨ha, rfl⟩
                refine At.wpcS (i := 11) (d := 72) (.bool true) (by kernel_rfl) rfl rfl rfl (fun Lx => ?_) ?_
                · skip
                  refine At.move rfl rfl ?_
                  refine At.ops0 ?_
                  exact fun a ha => ⟨ha, rfl⟩
                refine At.wpcS (i := 12) (d := 73) (undef) (by kernel_rfl) rfl rfl rfl (fun Lx => ?_) ?_
                · skip
                  refine At.no rfl rfl rfl rfl rfl rfl rfl ?_
                  refine At.ops0 ?_
                  exact fun a ha => ⟨ha, rfl⟩
                refine At.wpcS (i := 13) (d := 74) (undef) (by kernel_rfl) rfl rfl rfl (fun Lx => ?_) ?_
                · skip
                  refine At.no rfl rfl rfl rfl rfl rfl rfl ?_
                  refine At.ops0 ?_
                  exact fun a ha => ⟨ha, rfl⟩
                refine At.wpcS (i := 14) (d := 75) (undef) (by kernel_rfl) rfl rfl rfl (fun Lx => ?_) ?_
                · skip
                  refine At.no rfl rfl rfl rfl rfl rfl rfl ?_
                  refine At.ops0 ?_
                  exact fun a ha => ⟨ha, rfl⟩
                refine At.wpcS (i := 15) (d := 76) (undef) (by kernel_rfl) rfl rfl rfl (fun Lx => ?_) ?_
                · skip
                  refine At.no rfl rfl rfl rfl rfl rfl rfl ?_
                  refine At.ops0 ?_
                  exact fun a ha => ⟨ha, rfl⟩
                refine At.wpcS (i := 16) (d := 77) (undef) (by kernel_rfl) rfl rfl rfl (fun Lx => ?_) ?_
                · skip
                  refine At.no rfl rfl rfl rfl rfl rfl rfl ?_
                  refine At.ops0 ?_
                  exact fun a ha => ⟨ha, rfl⟩
                refine At.wpcS (i := 17) (d := 78) (undef) (by kernel_rfl) rfl rfl rfl (fun Lx => ?_) ?_
                · skip
                  refine At.no rfl rfl rfl rfl rfl rfl rfl ?_
                  refine At.ops0 ?_
                  exact fun a ha => ⟨ha, rfl⟩
                refine At.wpcS (i := 18) (d := 79) (undef) (by kernel_rfl) rfl rfl rfl (fun Lx => ?_) ?_
                · skip
                  refine At.no rfl rfl rfl rfl rfl rfl rfl ?_
                  refine At.ops0 ?_
                  exact fun a ha => ⟨ha, rfl⟩
                refine At.wpcS (i := 19) (d := 80) (undef) (by kernel_rfl) rfl rfl rfl (fun Lx => ?_) ?_
                · skip
                  refine At.no rfl rfl rfl rfl rfl rfl rfl ?_
                  refine At.ops0 ?_
                  exact fun a ha => ⟨ha, rfl⟩
                refine At.wpcS (i := 20) (d := 81) (undef) (by kernel_rfl) rfl rfl rfl (fun Lx => ?_) ?_
                · skip
                  refine At.no rfl rfl rfl rfl rfl rfl rfl ?_
                  refine At.ops0 ?_
                  exact fun a ha => ⟨ha, rfl⟩
                refine At.wpcS (i := 21) (d := 82) (.bool true) (by kernel_rfl) rfl rfl rfl (fun Lx => ?_) ?_
                · skip
                  refine At.pickT rfl rfl rfl ?_
                  refine At.ops0 ?_
                  exact fun a ha => ⟨ha, rfl⟩
                refine At.wpcZ ?_
                refine At.thenN ?_
                refine At.condT rfl ?_
                refine At.seq ?_
                refine At.region ?_
                refine At.assign rfl rfl ?_
                refine At.ops0 ?_
                refine At.thenN ?_
                refine At.retc ?_
                refine At.inR ?_
                refine At.thenR ?_
                refine At.thenR ?_
                refine At.inR ?_
                refine At.thenR ?_
                refine At.doneR (ResV.tmp rfl ResV.nil) ?_
                have hgo := handlerOk_go (effs := p.effs) (t := t) hu1 (by simpa using hg1) (by simpa [ret_] using hg3') (by omega)
                have hdr : (t.arms.drop 1)[k]? = some u3 := by rw [List.getElem?_drop]; exact hu3
                have hna : hdArm u2 u3 = false := hdArm_len (by omega)
                exact ⟨congrArg Ending.returned (congrArg Value.bool (Eq.symm (by rw [hgo, ← hn, eq2_step hu2 hdr, hna]; rfl))), hB⟩
              · skip
                have hg5' := hg5; simp only [Bool.not_eq_true', Bool.not_eq_false', decide_eq_true_eq, decide_eq_false_iff_not] at hg5'
                refine At.drawG (n := 22) mixed (by kernel_rfl) rfl (PanicOk.then (PanicOk.block (PanicOk.then (PanicOk.then (PanicOk.block (PanicOk.then PanicOk.body)))))) ?_
                have hB := Below.drewB hB
                have hb2 : _ := (show w10.drew.heap[b2]? = _ from hb2)
                have hb4 : _ := (show w10.drew.heap[b4]? = _ from hb4)
                have hb5 : _ := (show w10.drew.heap[b5]? = _ from hb5)
                refine At.wpcS (i := 0) (d := 61) (.pointer (some ⟨b5, 0 + 0, none⟩)) (by kernel_rfl) rfl rfl rfl (fun Lx => ?_) ?_
                · skip
                  refine At.fieldAddr rfl fo71_0 rfl ?_
                  refine At.ops0 ?_
                  exact fun a ha => ⟨ha, rfl⟩
                refine At.wpcS (i := 1) (d := 62) (.string u3.nm) (by kernel_rfl) rfl rfl rfl (fun Lx => ?_) ?_
                · skip
                  refine At.load rfl (Ld.ownCell ag9 hb5 (((ht).arm hu3)).c0) rfl ?_
                  refine At.ops0 ?_
                  exact fun a ha => ⟨ha, rfl⟩
                refine At.wpcS (i := 2) (d := 63) (.pointer (some ⟨b4, 0 + 0, none⟩)) (by kernel_rfl) rfl rfl rfl (fun Lx => ?_) ?_
                · skip
                  refine At.fieldAddr rfl fo45_0 rfl ?_
                  refine At.ops0 ?_
                  exact fun a ha => ⟨ha, rfl⟩
                refine At.wpcS (i := 3) (d := 64) (.string u2.nm) (by kernel_rfl) rfl rfl rfl (fun Lx => ?_) ?_
                · skip
                  refine At.load rfl (Ld.ownCell ag9 hb4 ((((hdE_ok hp t.nm)).op hu2)).c0) rfl ?_
                  refine At.ops0 ?_
                  exact fun a ha => ⟨ha, rfl⟩
                refine At.wpcS (i := 4) (d := 65) (.bool (!decide (u3.nm = u2.nm))) (by kernel_rfl) rfl rfl rfl (fun Lx => ?_) ?_
                · skip
                  refine At.neS rfl rfl rfl ?_
                  refine At.ops0 ?_
                  exact fun a ha => ⟨ha, rfl⟩
                refine At.set (d := 65) (u := .bool false) rfl (congrArg Value.bool hg4) ?_
                refine At.wpcS (i := 5) (d := 66) (.bool false) (by kernel_rfl) rfl rfl rfl (fun Lx => ?_) ?_
                · skip
                  refine At.move rfl rfl ?_
                  refine At.ops0 ?_
                  exact fun a ha => ⟨ha, rfl⟩
                refine At.wpcS (i := 6) (d := 67) (.pointer (some ⟨b5, 0 + 1, none⟩)) (by kernel_rfl) rfl rfl rfl (fun Lx => ?_) ?_
                · skip
                  refine At.yes rfl rfl rfl rfl ?_
                  refine At.fieldAddr rfl fo71_1 rfl ?_
                  refine At.ops0 ?_
                  exact fun a ha => ⟨ha, rfl⟩
                refine At.wpcS (i := 7) (d := 68) (u3.vv) (by kernel_rfl) rfl rfl rfl (fun Lx => ?_) ?_
                · skip
                  refine At.yes rfl rfl rfl rfl ?_
                  refine At.load rfl (Ld.ownCell ag27 hb5 (((ht).arm hu3)).c1) rfl ?_
                  refine At.ops0 ?_
                  exact fun a ha => ⟨ha, rfl⟩
                refine At.wpcS (i := 8) (d := 69) (.int .i64 (u3.vars.length : Int)) (by kernel_rfl) rfl rfl rfl (fun Lx => ?_) ?_
                · skip
                  refine At.yes rfl rfl rfl rfl ?_
                  refine At.lenSl rfl ((((ht).arm hu3)).varsAt).ok el27 rfl ?_
                  refine At.ops0 ?_
                  exact fun a ha => ⟨ha, rfl⟩
                refine At.wpcS (i := 9) (d := 70) (.bool (!decide ((u3.vars.length : Int) = 2))) (by kernel_rfl) rfl rfl rfl (fun Lx => ?_) ?_
                · skip
                  refine At.yes rfl rfl rfl rfl ?_
                  refine At.neI rfl rfl rfl ?_
                  refine At.ops0 ?_
                  exact fun a ha => ⟨ha, rfl⟩
                refine At.set (d := 70) (u := .bool false) rfl (congrArg Value.bool hg5) ?_
                refine At.wpcS (i := 10) (d := 71) (.bool false) (by kernel_rfl) rfl rfl rfl (fun Lx => ?_) ?_
                · skip
                  refine At.pickF rfl rfl rfl ?_
                  refine At.ops0 ?_
                  exact fun a ha => ⟨ha, rfl⟩
                refine At.wpcS (i := 11) (d := 72) (.bool false) (by kernel_rfl) rfl rfl rfl (fun Lx => ?_) ?_
                · skip
                  refine At.move rfl rfl ?_
                  refine At.ops0 ?_
                  exact fun a ha => ⟨ha, rfl⟩
                refine At.wpcS (i := 12) (d := 73) (.pointer (some ⟨b5, 0 + 1, none⟩)) (by kernel_rfl) rfl rfl rfl (fun Lx => ?_) ?_
                · skip
                  refine At.yes rfl rfl rfl rfl ?_
                  refine At.fieldAddr rfl fo71_1 rfl ?_
                  refine At.ops0 ?_
                  exact fun a ha => ⟨ha, rfl⟩
                refine At.wpcS (i := 13) (d := 74) (u3.vv) (by kernel_rfl) rfl rfl rfl (fun Lx => ?_) ?_
                · skip
                  refine At.yes rfl rfl rfl rfl ?_
                  refine At.load rfl (Ld.ownCell ag27 hb5 (((ht).arm hu3)).c1) rfl ?_
                  refine At.ops0 ?_
                  exact fun a ha => ⟨ha, rfl⟩
                obtain ⟨u4, hu4⟩ := some_of_lt (l := u3.vars) (i := 0) (by omega)
                refine At.wpcS (i := 14) (d := 75) (.pointer (some ⟨vBlock u3.vv, vOff u3.vv + 0 * 1, none⟩)) (by kernel_rfl) rfl rfl rfl (fun Lx => ?_) ?_
                · skip
                  refine At.yes rfl rfl rfl rfl ?_
                  refine At.indexAddr (i := 0) rfl rfl ((((ht).arm hu3)).varsAt).ok (lt_of_some hu4) el27 sz9 rfl ?_
                  refine At.ops0 ?_
                  exact fun a ha => ⟨ha, rfl⟩
                refine At.wpcS (i := 15) (d := 76) (.string u4) (by kernel_rfl) rfl rfl rfl (fun Lx => ?_) ?_
                · skip
                  refine At.yes rfl rfl rfl rfl ?_
                  refine At.load rfl (Ld.cell ag9 (cell_keep (((((ht).arm hu3)).varsAt).get hu4) hB)) rfl ?_
                  refine At.ops0 ?_
                  exact fun a ha => ⟨ha, rfl⟩
                refine At.wpcS (i := 16) (d := 77) (.pointer (some ⟨b5, 0 + 1, none⟩)) (by kernel_rfl) rfl rfl rfl (fun Lx => ?_) ?_
                · skip
                  refine At.yes rfl rfl rfl rfl ?_
                  refine At.fieldAddr rfl fo71_1 rfl ?_
                  refine At.ops0 ?_
                  exact fun a ha => ⟨ha, rfl⟩
                refine At.wpcS (i := 17) (d := 78) (u3.vv) (by kernel_rfl) rfl rfl rfl (fun Lx => ?_) ?_
                · skip
                  refine At.yes rfl rfl rfl rfl ?_
                  refine At.load rfl (Ld.ownCell ag27 hb5 (((ht).arm hu3)).c1) rfl ?_
                  refine At.ops0 ?_
                  exact fun a ha => ⟨ha, rfl⟩
                obtain ⟨u5, hu5⟩ := some_of_lt (l := u3.vars) (i := 1) (by omega)
                refine At.wpcS (i := 18) (d := 79) (.pointer (some ⟨vBlock u3.vv, vOff u3.vv + 1 * 1, none⟩)) (by kernel_rfl) rfl rfl rfl (fun Lx => ?_) ?_
                · skip
                  refine At.yes rfl rfl rfl rfl ?_
                  refine At.indexAddr (i := 1) rfl rfl ((((ht).arm hu3)).varsAt).ok (lt_of_some hu5) el27 sz9 rfl ?_
                  refine At.ops0 ?_
                  exact fun a ha => ⟨ha, rfl⟩
                refine At.wpcS (i := 19) (d := 80) (.string u5) (by kernel_rfl) rfl rfl rfl (fun Lx => ?_) ?_
                · skip
                  refine At.yes rfl rfl rfl rfl ?_
                  refine At.load rfl (Ld.cell ag9 (cell_keep (((((ht).arm hu3)).varsAt).get hu5) hB)) rfl ?_
                  refine At.ops0 ?_
                  exact fun a ha => ⟨ha, rfl⟩
                refine At.wpcS (i := 20) (d := 81) (.bool (decide (u4 = u5))) (by kernel_rfl) rfl rfl rfl (fun Lx => ?_) ?_
                · skip
                  refine At.yes rfl rfl rfl rfl ?_
                  refine At.eqS rfl rfl rfl ?_
                  refine At.ops0 ?_
                  exact fun a ha => ⟨ha, rfl⟩
                refine At.wpcS (i := 21) (d := 82) (.bool (decide (u4 = u5))) (by kernel_rfl) rfl rfl rfl (fun Lx => ?_) ?_
                · skip
                  refine At.pickF rfl rfl rfl ?_
                  refine At.ops0 ?_
                  exact fun a ha => ⟨ha, rfl⟩
                refine At.wpcZ ?_
                refine At.thenN ?_
                refine At.cond (b := decide (u4 = u5)) rfl (fun hc3 => ?_) (fun hc3 => ?_)
                · skip
                  have hc3' := of_decide_eq_true hc3
                  refine At.seq ?_
                  refine At.region ?_
                  refine At.assign rfl rfl ?_
                  refine At.ops0 ?_
                  refine At.thenN ?_
                  refine At.retc ?_
                  refine At.inR ?_
                  refine At.thenR ?_
                  refine At.thenR ?_
                  refine At.inR ?_
                  refine At.thenR ?_
                  refine At.doneR (ResV.tmp rfl ResV.nil) ?_
                  have hgo := handlerOk_go (effs := p.effs) (t := t) hu1 (by simpa using hg1) (by simpa [ret_] using hg3') (by omega)
                  have hdr : (t.arms.drop 1)[k]? = some u3 := by rw [List.getElem?_drop]; exact hu3
                  have hna : hdArm u2 u3 = false := (hdArm_eq (by omega) hu4 hu5).trans (by simp [hg4, hg5, hc3, of_decide_eq_true hc3])
                  exact ⟨congrArg Ending.returned (congrArg Value.bool (Eq.symm (by rw [hgo, ← hn, eq2_step hu2 hdr, hna]; rfl))), hB⟩
                · skip
                  have hc3' := of_decide_eq_false hc3
                  refine At.skip ?_
                  refine At.inN ?_
                  refine At.thenN ?_
                  refine At.region ?_
                  refine At.addI rfl rfl rfl (by omega) ?_
                  refine At.move rfl rfl ?_
                  refine At.ops0 ?_
                  refine At.thenN ?_
                  have hna : hdArm u2 u3 = true := (hdArm_eq (by omega) hu4 hu5).trans (by simp [of_decide_eq_false hc3, hg4'])
                  have hdr : (t.arms.drop 1)[k]? = some u3 := by rw [List.getElem?_drop]; exact hu3
                  exact fun a ha => ⟨(k + 1), ha.sub (Sub.cons rfl (Sub.cons rfl (Sub.cons rfl (Sub.cons rfl Sub.nil)))), ⟨hB, hb2, (by omega), (by rw [← hn, eq2_step hu2 hdr, hna]; rfl)⟩, by first | omega | (dsimp only; omega)⟩
          · skip
            have hc2' := of_decide_eq_false hc2
            refine At.exit ?_
            refine At.thenE ?_
            refine At.thenE ?_
            refine At.inE ?_
            refine At.thenN ?_
            refine At.seq ?_
            refine At.region ?_
            refine At.assign rfl rfl ?_
            refine At.ops0 ?_
            refine At.thenN ?_
            refine At.retc ?_
            refine At.doneR (ResV.tmp rfl ResV.nil) ?_
            have hgo := handlerOk_go (effs := p.effs) (t := t) hu1 (by simpa using hg1) (by simpa [ret_] using hg3') (by omega)
            exact ⟨congrArg Ending.returned (congrArg Value.bool (Eq.symm (by rw [hgo, ← hn, List.drop_eq_nil_of_le (by omega), List.drop_eq_nil_of_le (by simp only [List.length_drop]; omega)]; rfl))), hB⟩
theorem containsF_Dat (v : Value) (l : List Dat) (c : FuncId) (cap : List Value) (p : Dat → Bool) (w : World) (hv : RowsAt w v 2 (l.map Dat.cs)) (hE : ∀ u ∈ l, DatOk w u) (hent : entB Try.prog c = true) (hl : l.length ≤ 9223372036854775807)
    (hclo : ∀ (u : Dat) (w1 : World), Below w.heap.size w w1 → DatOk w u → Calls Try.prog c ([.agg u.cs] ++ cap : List Value).toArray w1 fun e w2 => e = .returned (.bool (p u)) ∧ Below w1.heap.size w1 w2) :
    Calls Try.prog 51 ([v, .func (.func c) #[] cap.toArray] : List Value).toArray w fun e w' => e = .returned (.bool (l.any p)) ∧ Below w.heap.size w w' := by
  have hB := Below.refl w.heap.size w
  refine At.enter (N := 9) Try.func51 rfl rfl (by simp) [(0, v), (1, .func (.func c) #[] cap.toArray)] (by simp) ?_
  refine At.seq ?_
  refine At.region ?_
  refine At.assign rfl rfl ?_
  refine At.ops0 ?_
  refine At.thenN ?_
  refine At.seq ?_
  refine At.region ?_
  refine At.move rfl rfl ?_
  refine At.move rfl rfl ?_
  refine At.call en60 rfl rfl (indexF_Dat v l c cap p _ hv hE hent hl hclo) (fun e w1 hR => ?_)
  obtain ⟨rfl, hbl1⟩ := hR
  refine ⟨_, rfl, ?_⟩
  replace hB := Below.andThen hB hbl1
  refine At.geq rfl rfl rfl ?_
  refine At.assign rfl rfl ?_
  refine At.ops0 ?_
  refine At.thenN ?_
  refine At.retc ?_
  refine At.doneR (ResV.tmp rfl ResV.nil) ?_
  exact ⟨congrArg Ending.returned (congrArg Value.bool (idxI_geq p l)), hB⟩
theorem clo_Dat (u : Dat) (b0 : Nat) (t : Ty) (w : World) (hu : DatOk w u) (ht : TyOk t) (hb0 : w.heap[b0]? = some (.cells t.cs 31)) :
    Calls Try.prog 52 ([.agg u.cs, .pointer (some ⟨b0, 0, none⟩)] : List Value).toArray w fun e w' => e = .returned (.bool (datIs t.nm u)) ∧ Below w.heap.size w w' := by
  have hB := Below.refl w.heap.size w
  refine At.enter (N := 9) Try.func52 rfl rfl (by simp) [(0, .agg u.cs), (1, .pointer (some ⟨b0, 0, none⟩))] (by simp) ?_
  refine At.seq ?_
  refine At.region ?_
  refine At.box rfl rfl (fun b1 w1 F1 => ?_)
  have n_b0_b1 : b0 ≠ b1 := Nat.ne_of_lt (F1.lt hb0)
  have gb1 := F1.ge hB
  replace hb0 := F1.old hb0
  have hb1 : w1.heap[b1]? = some (.cells u.cs 52) := F1.new
  replace hB := F1.below' hB
  refine At.assign rfl rfl ?_
  refine At.ops0 ?_
  refine At.thenN ?_
  refine At.seq ?_
  refine At.region ?_
  refine At.fieldAddr rfl fo52_0 rfl ?_
  refine At.load rfl (Ld.ownCell ag9 hb1 (hu).c0) rfl ?_
  refine At.fieldAddr rfl fo31_1 rfl ?_
  refine At.load rfl (Ld.ownCell ag9 hb0 (ht).c1) rfl ?_
  refine At.eqS rfl rfl rfl ?_
  refine At.assign rfl rfl ?_
  refine At.ops0 ?_
  refine At.thenN ?_
  refine At.retc ?_
  refine At.doneR (ResV.tmp rfl ResV.nil) ?_
  exact ⟨rfl, hB⟩
theorem known_any (p : Pr) (v : Value) (l : List Ty) (w : World) (hp : PrOk w p) (hz : PrSz p) (hv : RowsAt w v 6 (l.map Ty.cs)) (hT : ∀ t ∈ l, TyOk t) (hl : l.length ≤ 4398046511104) :
    Calls Try.prog 40 ([.agg p.cs, v] : List Value).toArray w fun e w' => e = .returned (.bool (l.all (knownT p.dats))) ∧ Below w.heap.size w w' := by
  have hB := Below.refl w.heap.size w
  refine At.enter (N := 72) Try.func40 rfl rfl (by simp) [(0, .agg p.cs), (1, v)] (by simp) ?_
  refine At.seq ?_
  refine At.region ?_
  refine At.box rfl rfl (fun b1 w1 F1 => ?_)
  have gb1 := F1.ge hB
  have hb1 : w1.heap[b1]? = some (.cells p.cs 75) := F1.new
  replace hB := F1.below' hB
  refine At.assign rfl rfl ?_
  refine At.ops0 ?_
  refine At.thenN ?_
  refine At.seq ?_
  refine At.seq ?_
  refine At.region ?_
  refine At.move rfl rfl ?_
  refine At.lenSl rfl hv.okL el26 rfl ?_
  refine At.move rfl rfl ?_
  refine At.ops0 ?_
  refine At.thenN ?_
  refine At.block ?_
  refine At.loop (Nat) (fun k => [(2, .pointer (some ⟨b1, 0, none⟩)), (8, v), (9, .int .i64 (l.length : Int)), (10, .int .i64 (k : Int))]) (fun k w2 => Below w.heap.size w w2 ∧ w2.heap[b1]? = some (.cells p.cs 75) ∧ (k ≤ l.length) ∧ ((l.drop k).all (knownT p.dats) = l.all (knownT p.dats))) (fun k => l.length - k) (0 : Nat) (Sub.cons rfl (Sub.cons rfl (Sub.cons rfl (Sub.cons rfl Sub.nil)))) ⟨hB, hb1, (Nat.zero_le _), (rfl)⟩ (fun k w2 hI => ?_)
  clear hB hb1
  obtain ⟨hB, hb1, hkb, hn⟩ := hI
  show At _ _ [(2, .pointer (some ⟨b1, 0, none⟩)), (8, v), (9, .int .i64 (l.length : Int)), (10, .int .i64 (k : Int))] _ _
  refine At.seq ?_
  refine At.region ?_
  refine At.lss rfl rfl rfl ?_
  refine At.ops0 ?_
  refine At.thenN ?_
  refine At.seq ?_
  refine At.cond (b := decide ((k : Int) < (l.length : Int))) rfl (fun hc1 => ?_) (fun hc1 => ?_)
  · skip
    have hc1' := of_decide_eq_true hc1
    refine At.skip ?_
    refine At.thenN ?_
    refine At.seq ?_
    refine At.block ?_
    refine At.seq ?_
    refine At.region ?_
    obtain ⟨u1, hu1⟩ := some_of_lt (l := l) (i := k) (by omega)
    refine At.indexAddr (i := k) rfl rfl hv.okL (lt_of_some hu1) el26 sz31 rfl ?_
    refine At.load rfl (Ld.row ag31 (sz31.trans (congrArg some ((hT u1 (List.mem_of_getElem? hu1))).size.symm)) (((hv).row hu1).keep hB)) rfl ?_
    refine At.alloc ze31 rfl (fun b2 w3 F2 => ?_)
    have n_b1_b2 : b1 ≠ b2 := Nat.ne_of_lt (F2.lt hb1)
    have gb2 := F2.ge hB
    replace hb1 := F2.old hb1
    have hb2 : w3.heap[b2]? = some (.cells #[.int .i64 0, .string (⟨#[]⟩ : ByteArray), .int .i64 0, (.slice none 0 0), (.slice none 0 0), .int .i64 0] 31) := F2.new
    replace hB := F2.below' hB
    refine At.storeAll rfl rfl hb2 (sz31.trans (congrArg some ((hT u1 (List.mem_of_getElem? hu1))).size.symm)) ((hT u1 (List.mem_of_getElem? hu1))).size.symm ((hT u1 (List.mem_of_getElem? hu1))).one (fun w4 S1 => ?_)
    replace hb1 := S1.other hb1 n_b1_b2
    replace hb2 : w4.heap[b2]? = some (.cells u1.cs 31) := S1.new
    replace hB := S1.below' hB gb2
    refine At.ops0 ?_
    refine At.thenN ?_
    refine At.seq ?_
    refine At.region ?_
    refine At.join [(2, .pointer (some ⟨b1, 0, none⟩)), (8, v), (9, .int .i64 (l.length : Int)), (10, .int .i64 (k : Int)), (6, .pointer (some ⟨b2, 0, none⟩)), (7, .bool (((decide (u1.var = 0) && decide ((u1.args : Int) = 0)) && decide ((u1.labels : Int) = 0)) && decide (u1.rvar = 0)))] (fun w' => w4 = w') ?_ (fun w5 hS => ?_)
    · skip
      refine At.fieldAddr rfl fo31_2 rfl ?_
      refine At.load rfl (Ld.ownCell ag3 hb2 ((hT u1 (List.mem_of_getElem? hu1))).c2) rfl ?_
      refine At.eqI rfl rfl rfl ?_
      refine At.move rfl rfl ?_
      refine At.cases (decide (u1.var = 0)) (fun hg1 => ?_) (fun hg1 => ?_)
      · skip
        refine At.set (d := 17) (u := .bool true) rfl (congrArg Value.bool hg1) ?_
        have hg1' := of_decide_eq_true hg1
        refine At.yes rfl rfl rfl rfl ?_
        refine At.fieldAddr rfl fo31_3 rfl ?_
        refine At.yes rfl rfl rfl rfl ?_
        refine At.load rfl (Ld.ownCell ag26 hb2 ((hT u1 (List.mem_of_getElem? hu1))).c3) rfl ?_
        refine At.yes rfl rfl rfl rfl ?_
        refine At.lenSl rfl ((hT u1 (List.mem_of_getElem? hu1))).argsOk el26 rfl ?_
        refine At.yes rfl rfl rfl rfl ?_
        refine At.eqI rfl rfl rfl ?_
        refine At.pickT rfl rfl rfl ?_
        refine At.move rfl rfl ?_
        refine At.cases (decide ((u1.args : Int) = 0)) (fun hg2 => ?_) (fun hg2 => ?_)
        · skip
          refine At.set (d := 23) (u := .bool true) rfl (congrArg Value.bool hg2) ?_
          have hg2' := of_decide_eq_true hg2
          refine At.yes rfl rfl rfl rfl ?_
          refine At.fieldAddr rfl fo31_4 rfl ?_
          refine At.yes rfl rfl rfl rfl ?_
          refine At.fieldAddr rfl fo29_0 rfl ?_
          refine At.yes rfl rfl rfl rfl ?_
          refine At.load rfl (Ld.ownCell ag27 hb2 ((hT u1 (List.mem_of_getElem? hu1))).c4) rfl ?_
          refine At.yes rfl rfl rfl rfl ?_
          refine At.lenSl rfl ((hT u1 (List.mem_of_getElem? hu1))).labelsOk el27 rfl ?_
          refine At.yes rfl rfl rfl rfl ?_
          refine At.eqI rfl rfl rfl ?_
          refine At.pickT rfl rfl rfl ?_
          refine At.move rfl rfl ?_
          refine At.cases (decide ((u1.labels : Int) = 0)) (fun hg3 => ?_) (fun hg3 => ?_)
          · skip
            refine At.set (d := 30) (u := .bool true) rfl (congrArg Value.bool hg3) ?_
            have hg3' := of_decide_eq_true hg3
            refine At.yes rfl rfl rfl rfl ?_
            refine At.fieldAddr rfl fo31_4 rfl ?_
            refine At.yes rfl rfl rfl rfl ?_
            refine At.fieldAddr rfl fo29_1 rfl ?_
            refine At.yes rfl rfl rfl rfl ?_
            refine At.load rfl (Ld.ownCell ag3 hb2 ((hT u1 (List.mem_of_getElem? hu1))).c5) rfl ?_
            refine At.yes rfl rfl rfl rfl ?_
            refine At.eqI rfl rfl rfl ?_
            refine At.pickT rfl rfl rfl ?_
            refine At.assign rfl rfl ?_
            exact At.joined (Sub.cons rfl (Sub.cons rfl (Sub.cons rfl (Sub.cons rfl (Sub.cons rfl (Sub.cons (by show some (Value.bool (decide (u1.rvar = 0))) = some (Value.bool (((decide (u1.var = 0) && decide ((u1.args : Int) = 0)) && decide ((u1.labels : Int) = 0)) && decide (u1.rvar = 0))); rw [hg1, hg2, hg3]; rfl) Sub.nil)))))) rfl
          · skip
            refine At.set (d := 30) (u := .bool false) rfl (congrArg Value.bool hg3) ?_
            have hg3' := of_decide_eq_false hg3
            refine At.no rfl rfl rfl rfl rfl rfl rfl ?_
            refine At.no rfl rfl rfl rfl rfl rfl rfl ?_
            refine At.no rfl rfl rfl rfl rfl rfl rfl ?_
            refine At.no rfl rfl rfl rfl rfl rfl rfl ?_
            refine At.pickF rfl rfl rfl ?_
            refine At.assign rfl rfl ?_
            exact At.joined (Sub.cons rfl (Sub.cons rfl (Sub.cons rfl (Sub.cons rfl (Sub.cons rfl (Sub.cons (by show some (Value.bool false) = some (Value.bool (((decide (u1.var = 0) && decide ((u1.args : Int) = 0)) && decide ((u1.labels : Int) = 0)) && decide (u1.rvar = 0))); rw [hg1, hg2, hg3]; rfl) Sub.nil)))))) rfl
        · skip
          refine At.set (d := 23) (u := .bool false) rfl (congrArg Value.bool hg2) ?_
          have hg2' := of_decide_eq_false hg2
          refine At.no rfl rfl rfl rfl rfl rfl rfl ?_
          refine At.no rfl rfl rfl rfl rfl rfl rfl ?_
          refine At.no rfl rfl rfl rfl rfl rfl rfl ?_
          refine At.no rfl rfl rfl rfl rfl rfl rfl ?_
          refine At.no rfl rfl rfl rfl rfl rfl rfl ?_
          refine At.pickF rfl rfl rfl ?_
          refine At.move rfl rfl ?_
          refine At.no rfl rfl rfl rfl rfl rfl rfl ?_
          refine At.no rfl rfl rfl rfl rfl rfl rfl ?_
          refine At.no rfl rfl rfl rfl rfl rfl rfl ?_
          refine At.no rfl rfl rfl rfl rfl rfl rfl ?_
          refine At.pickF rfl rfl rfl ?_
          refine At.assign rfl rfl ?_
          exact At.joined (Sub.cons rfl (Sub.cons rfl (Sub.cons rfl (Sub.cons rfl (Sub.cons rfl (Sub.cons (by show some (Value.bool false) = some (Value.bool (((decide (u1.var = 0) && decide ((u1.args : Int) = 0)) && decide ((u1.labels : Int) = 0)) && decide (u1.rvar = 0))); rw [hg1, hg2]; rfl) Sub.nil)))))) rfl
      · skip
        refine At.set (d := 17) (u := .bool false) rfl (congrArg Value.bool hg1) ?_
        have hg1' := of_decide_eq_false hg1
        refine At.no rfl rfl rfl rfl rfl rfl rfl ?_
        refine At.no rfl rfl rfl rfl rfl rfl rfl ?_
        refine At.no rfl rfl rfl rfl rfl rfl rfl ?_
        refine At.no rfl rfl rfl rfl rfl rfl rfl ?_
        refine At.pickF rfl rfl rfl ?_
        refine At.move rfl rfl ?_
        refine At.no rfl rfl rfl rfl rfl rfl rfl ?_
        refine At.no rfl rfl rfl rfl rfl rfl rfl ?_
        refine At.no rfl rfl rfl rfl rfl rfl rfl ?_
        refine At.no rfl rfl rfl rfl rfl rfl rfl ?_
        refine At.no rfl rfl rfl rfl rfl rfl rfl ?_
        refine At.pickF rfl rfl rfl ?_
        refine At.move rfl rfl ?_
        refine At.no rfl rfl rfl rfl rfl rfl rfl ?_
        refine At.no rfl rfl rfl rfl rfl rfl rfl ?_
        refine At.no rfl rfl rfl rfl rfl rfl rfl ?_
        refine At.no rfl rfl rfl rfl rfl rfl rfl ?_
        refine At.pickF rfl rfl rfl ?_
        refine At.assign rfl rfl ?_
        exact At.joined (Sub.cons rfl (Sub.cons rfl (Sub.cons rfl (Sub.cons rfl (Sub.cons rfl (Sub.cons (by show some (Value.bool false) = some (Value.bool (((decide (u1.var = 0) && decide ((u1.args : Int) = 0)) && decide ((u1.labels : Int) = 0)) && decide (u1.rvar = 0))); rw [hg1]; rfl) Sub.nil)))))) rfl
    · skip
      subst hS
      refine At.thenN ?_
      refine At.block ?_
      refine At.seq ?_
      refine At.region ?_
      refine At.join [(2, .pointer (some ⟨b1, 0, none⟩)), (8, v), (9, .int .i64 (l.length : Int)), (10, .int .i64 (k : Int)), (6, .pointer (some ⟨b2, 0, none⟩)), (7, .bool (((decide (u1.var = 0) && decide ((u1.args : Int) = 0)) && decide ((u1.labels : Int) = 0)) && decide (u1.rvar = 0))), (36, .bool (((((decide (u1.var = 0) && decide ((u1.args : Int) = 0)) && decide ((u1.labels : Int) = 0)) && decide (u1.rvar = 0)) && decide (u1.nm = (⟨#[]⟩ : ByteArray))) && ((decide (u1.k = 1) || decide (u1.k = 2)) || decide (u1.k = 3))))] (fun w' => w4 = w') ?_ (fun w6 hS => ?_)
      · skip
        refine At.move rfl rfl ?_
        refine At.move rfl rfl ?_
        refine At.cases ((((decide (u1.var = 0) && decide ((u1.args : Int) = 0)) && decide ((u1.labels : Int) = 0)) && decide (u1.rvar = 0))) (fun hg4 => ?_) (fun hg4 => ?_)
        · skip
          refine At.set (d := 38) (u := .bool true) rfl (congrArg Value.bool hg4) ?_
          refine At.yes rfl rfl rfl rfl ?_
          refine At.fieldAddr rfl fo31_1 rfl ?_
          refine At.yes rfl rfl rfl rfl ?_
          refine At.load rfl (Ld.ownCell ag9 hb2 ((hT u1 (List.mem_of_getElem? hu1))).c1) rfl ?_
          refine At.yes rfl rfl rfl rfl ?_
          refine At.eqS rfl rfl rfl ?_
          refine At.pickT rfl rfl rfl ?_
          refine At.move rfl rfl ?_
          refine At.cases (decide (u1.nm = (⟨#[]⟩ : ByteArray))) (fun hg5 => ?_) (fun hg5 => ?_)
          · skip
            refine At.set (d := 43) (u := .bool true) rfl (congrArg Value.bool hg5) ?_
            have hg5' := of_decide_eq_true hg5
            refine At.yes rfl rfl rfl rfl ?_
            refine At.fieldAddr rfl fo31_0 rfl ?_
            refine At.yes rfl rfl rfl rfl ?_
            refine At.load rfl (Ld.ownCell ag3 hb2 ((hT u1 (List.mem_of_getElem? hu1))).c0) rfl ?_
            refine At.yes rfl rfl rfl rfl ?_
            refine At.eqI rfl rfl rfl ?_
            refine At.yes rfl rfl rfl rfl ?_
            refine At.move rfl rfl ?_
            refine At.cases (decide (u1.k = 1)) (fun hg6 => ?_) (fun hg6 => ?_)
            · skip
              refine At.set (d := 47) (u := .bool true) rfl (congrArg Value.bool hg6) ?_
              have hg6' := of_decide_eq_true hg6
              refine At.no rfl rfl rfl rfl rfl rfl rfl ?_
              refine At.no rfl rfl rfl rfl rfl rfl rfl ?_
              refine At.no rfl rfl rfl rfl rfl rfl rfl ?_
              refine At.yes rfl rfl rfl rfl ?_
              refine At.pickT rfl rfl rfl ?_
              refine At.yes rfl rfl rfl rfl ?_
              refine At.move rfl rfl ?_
              refine At.no rfl rfl rfl rfl rfl rfl rfl ?_
              refine At.no rfl rfl rfl rfl rfl rfl rfl ?_
              refine At.no rfl rfl rfl rfl rfl rfl rfl ?_
              refine At.yes rfl rfl rfl rfl ?_
              refine At.pickT rfl rfl rfl ?_
              refine At.pickT rfl rfl rfl ?_
              refine At.assign rfl rfl ?_
              exact At.joined (Sub.cons rfl (Sub.cons rfl (Sub.cons rfl (Sub.cons rfl (Sub.cons rfl (Sub.cons rfl (Sub.cons (by show some (Value.bool true) = some (Value.bool (((((decide (u1.var = 0) && decide ((u1.args : Int) = 0)) && decide ((u1.labels : Int) = 0)) && decide (u1.rvar = 0)) && decide (u1.nm = (⟨#[]⟩ : ByteArray))) && ((decide (u1.k = 1) || decide (u1.k = 2)) || decide (u1.k = 3)))); rw [hg4, hg5, hg6]; rfl) Sub.nil))))))) rfl
            · skip
              refine At.set (d := 47) (u := .bool false) rfl (congrArg Value.bool hg6) ?_
              have hg6' := of_decide_eq_false hg6
              refine At.yes rfl rfl rfl rfl ?_
              refine At.fieldAddr rfl fo31_0 rfl ?_
              refine At.yes rfl rfl rfl rfl ?_
              refine At.load rfl (Ld.ownCell ag3 hb2 ((hT u1 (List.mem_of_getElem? hu1))).c0) rfl ?_
              refine At.yes rfl rfl rfl rfl ?_
              refine At.eqI rfl rfl rfl ?_
              refine At.yes rfl rfl rfl rfl ?_
              refine At.pickF rfl rfl rfl ?_
              refine At.yes rfl rfl rfl rfl ?_
              refine At.move rfl rfl ?_
              refine At.cases (decide (u1.k = 2)) (fun hg7 => ?_) (fun hg7 => ?_)
              · skip
                refine At.set (d := 52) (u := .bool true) rfl (congrArg Value.bool hg7) ?_
                have hg7' := of_decide_eq_true hg7
                refine At.no rfl rfl rfl rfl rfl rfl rfl ?_
                refine At.no rfl rfl rfl rfl rfl rfl rfl ?_
                refine At.no rfl rfl rfl rfl rfl rfl rfl ?_
                refine At.yes rfl rfl rfl rfl ?_
                refine At.pickT rfl rfl rfl ?_
                refine At.pickT rfl rfl rfl ?_
                refine At.assign rfl rfl ?_
                exact At.joined (Sub.cons rfl (Sub.cons rfl (Sub.cons rfl (Sub.cons rfl (Sub.cons rfl (Sub.cons rfl (Sub.cons (by show some (Value.bool true) = some (Value.bool (((((decide (u1.var = 0) && decide ((u1.args : Int) = 0)) && decide ((u1.labels : Int) = 0)) && decide (u1.rvar = 0)) && decide (u1.nm = (⟨#[]⟩ : ByteArray))) && ((decide (u1.k = 1) || decide (u1.k = 2)) || decide (u1.k = 3)))); rw [hg4, hg5, hg6, hg7]; rfl) Sub.nil))))))) rfl
              · skip
                refine At.set (d := 52) (u := .bool false) rfl (congrArg Value.bool hg7) ?_
                have hg7' := of_decide_eq_false hg7
                refine At.yes rfl rfl rfl rfl ?_
                refine At.fieldAddr rfl fo31_0 rfl ?_
                refine At.yes rfl rfl rfl rfl ?_
                refine At.load rfl (Ld.ownCell ag3 hb2 ((hT u1 (List.mem_of_getElem? hu1))).c0) rfl ?_
                refine At.yes rfl rfl rfl rfl ?_
                refine At.eqI rfl rfl rfl ?_
                refine At.yes rfl rfl rfl rfl ?_
                refine At.pickF rfl rfl rfl ?_
                refine At.pickT rfl rfl rfl ?_
                refine At.assign rfl rfl ?_
                exact At.joined (Sub.cons rfl (Sub.cons rfl (Sub.cons rfl (Sub.cons rfl (Sub.cons rfl (Sub.cons rfl (Sub.cons (by show some (Value.bool (decide (u1.k = 3))) = some (Value.bool (((((decide (u1.var = 0) && decide ((u1.args : Int) = 0)) && decide ((u1.labels : Int) = 0)) && decide (u1.rvar = 0)) && decide (u1.nm = (⟨#[]⟩ : ByteArray))) && ((decide (u1.k = 1) || decide (u1.k = 2)) || decide (u1.k = 3)))); rw [hg4, hg5, hg6, hg7]; rfl) Sub.nil))))))) rfl
          · skip
            refine At.set (d := 43) (u := .bool false) rfl (congrArg Value.bool hg5) ?_
            have hg5' := of_decide_eq_false hg5
            refine At.no rfl rfl rfl rfl rfl rfl rfl ?_
            refine At.no rfl rfl rfl rfl rfl rfl rfl ?_
            refine At.no rfl rfl rfl rfl rfl rfl rfl ?_
            refine At.no rfl rfl rfl rfl rfl rfl rfl ?_
            refine At.noU rfl rfl rfl rfl rfl rfl ?_
            refine At.noU rfl rfl rfl rfl rfl rfl ?_
            refine At.noU rfl rfl rfl rfl rfl rfl ?_
            refine At.no rfl rfl rfl rfl rfl rfl rfl ?_
            refine At.no rfl rfl rfl rfl rfl rfl rfl ?_
            refine At.noU rfl rfl rfl rfl rfl rfl ?_
            refine At.noU rfl rfl rfl rfl rfl rfl ?_
            refine At.noU rfl rfl rfl rfl rfl rfl ?_
            refine At.no rfl rfl rfl rfl rfl rfl rfl ?_
            refine At.pickF rfl rfl rfl ?_
            refine At.assign rfl rfl ?_
            exact At.joined (Sub.cons rfl (Sub.cons rfl (Sub.cons rfl (Sub.cons rfl (Sub.cons rfl (Sub.cons rfl (Sub.cons (by show some (Value.bool false) = some (Value.bool (((((decide (u1.var = 0) && decide ((u1.args : Int) = 0)) && decide ((u1.labels : Int) = 0)) && decide (u1.rvar = 0)) && decide (u1.nm = (⟨#[]⟩ : ByteArray))) && ((decide (u1.k = 1) || decide (u1.k = 2)) || decide (u1.k = 3)))); rw [hg4, hg5]; rfl) Sub.nil))))))) rfl
        · skip
          refine At.set (d := 38) (u := .bool false) rfl (congrArg Value.bool hg4) ?_
          refine At.no rfl rfl rfl rfl rfl rfl rfl ?_
          refine At.no rfl rfl rfl rfl rfl rfl rfl ?_
          refine At.no rfl rfl rfl rfl rfl rfl rfl ?_
          refine At.pickF rfl rfl rfl ?_
          refine At.move rfl rfl ?_
          refine At.no rfl rfl rfl rfl rfl rfl rfl ?_
          refine At.no rfl rfl rfl rfl rfl rfl rfl ?_
          refine At.no rfl rfl rfl rfl rfl rfl rfl ?_
          refine At.no rfl rfl rfl rfl rfl rfl rfl ?_
          refine At.noU rfl rfl rfl rfl rfl rfl ?_
          refine At.noU rfl rfl rfl rfl rfl rfl ?_
          refine At.noU rfl rfl rfl rfl rfl rfl ?_
          refine At.no rfl rfl rfl rfl rfl rfl rfl ?_
          refine At.no rfl rfl rfl rfl rfl rfl rfl ?_
          refine At.noU rfl rfl rfl rfl rfl rfl ?_
          refine At.noU rfl rfl rfl rfl rfl rfl ?_
          refine At.noU rfl rfl rfl rfl rfl rfl ?_
          refine At.no rfl rfl rfl rfl rfl rfl rfl ?_
          refine At.pickF rfl rfl rfl ?_
          refine At.assign rfl rfl ?_
          exact At.joined (Sub.cons rfl (Sub.cons rfl (Sub.cons rfl (Sub.cons rfl (Sub.cons rfl (Sub.cons rfl (Sub.cons (by show some (Value.bool false) = some (Value.bool (((((decide (u1.var = 0) && decide ((u1.args : Int) = 0)) && decide ((u1.labels : Int) = 0)) && decide (u1.rvar = 0)) && decide (u1.nm = (⟨#[]⟩ : ByteArray))) && ((decide (u1.k = 1) || decide (u1.k = 2)) || decide (u1.k = 3)))); rw [hg4]; rfl) Sub.nil))))))) rfl
      · skip
        subst hS
        refine At.thenN ?_
        refine At.cond (b := (((((decide (u1.var = 0) && decide ((u1.args : Int) = 0)) && decide ((u1.labels : Int) = 0)) && decide (u1.rvar = 0)) && decide (u1.nm = (⟨#[]⟩ : ByteArray))) && ((decide (u1.k = 1) || decide (u1.k = 2)) || decide (u1.k = 3)))) rfl (fun hc2 => ?_) (fun hc2 => ?_)
        · skip
          refine At.skip ?_
          refine At.inN ?_
          refine At.inN ?_
          refine At.thenN ?_
          refine At.region ?_
          refine At.addI rfl rfl rfl (by omega) ?_
          refine At.move rfl rfl ?_
          refine At.ops0 ?_
          refine At.thenN ?_
          have hkn : knownT p.dats u1 = true := kb_1 hc2
          exact fun a ha => ⟨(k + 1), ha.sub (Sub.cons rfl (Sub.cons rfl (Sub.cons rfl (Sub.cons rfl Sub.nil)))), ⟨hB, hb1, (by omega), (by rw [← hn, drop_cons hu1, List.all_cons, hkn]; rfl)⟩, by first | omega | (dsimp only; omega)⟩
        · skip
          refine At.seq ?_
          refine At.region ?_
          refine At.join [(2, .pointer (some ⟨b1, 0, none⟩)), (8, v), (9, .int .i64 (l.length : Int)), (10, .int .i64 (k : Int)), (6, .pointer (some ⟨b2, 0, none⟩)), (58, .bool ((((decide (u1.var = 0) && decide ((u1.args : Int) = 0)) && decide ((u1.labels : Int) = 0)) && decide (u1.rvar = 0)) && decide (u1.k = 4)))] (fun w' => w4 = w') ?_ (fun w7 hS => ?_)
          · skip
            refine At.move rfl rfl ?_
            refine At.move rfl rfl ?_
            refine At.cases ((((decide (u1.var = 0) && decide ((u1.args : Int) = 0)) && decide ((u1.labels : Int) = 0)) && decide (u1.rvar = 0))) (fun hg8 => ?_) (fun hg8 => ?_)
            · skip
              refine At.set (d := 60) (u := .bool true) rfl (congrArg Value.bool hg8) ?_
              refine At.yes rfl rfl rfl rfl ?_
              refine At.fieldAddr rfl fo31_0 rfl ?_
              refine At.yes rfl rfl rfl rfl ?_
              refine At.load rfl (Ld.ownCell ag3 hb2 ((hT u1 (List.mem_of_getElem? hu1))).c0) rfl ?_
              refine At.yes rfl rfl rfl rfl ?_
              refine At.eqI rfl rfl rfl ?_
              refine At.pickT rfl rfl rfl ?_
              refine At.assign rfl rfl ?_
              exact At.joined (Sub.cons rfl (Sub.cons rfl (Sub.cons rfl (Sub.cons rfl (Sub.cons rfl (Sub.cons (by show some (Value.bool (decide (u1.k = 4))) = some (Value.bool ((((decide (u1.var = 0) && decide ((u1.args : Int) = 0)) && decide ((u1.labels : Int) = 0)) && decide (u1.rvar = 0)) && decide (u1.k = 4))); rw [hg8]; rfl) Sub.nil)))))) rfl
            · skip
              refine At.set (d := 60) (u := .bool false) rfl (congrArg Value.bool hg8) ?_
              refine At.no rfl rfl rfl rfl rfl rfl rfl ?_
              refine At.no rfl rfl rfl rfl rfl rfl rfl ?_
              refine At.no rfl rfl rfl rfl rfl rfl rfl ?_
              refine At.pickF rfl rfl rfl ?_
              refine At.assign rfl rfl ?_
              exact At.joined (Sub.cons rfl (Sub.cons rfl (Sub.cons rfl (Sub.cons rfl (Sub.cons rfl (Sub.cons (by show some (Value.bool false) = some (Value.bool ((((decide (u1.var = 0) && decide ((u1.args : Int) = 0)) && decide ((u1.labels : Int) = 0)) && decide (u1.rvar = 0)) && decide (u1.k = 4))); rw [hg8]; rfl) Sub.nil)))))) rfl
          · skip
            subst hS
            refine At.thenN ?_
            refine At.cond (b := ((((decide (u1.var = 0) && decide ((u1.args : Int) = 0)) && decide ((u1.labels : Int) = 0)) && decide (u1.rvar = 0)) && decide (u1.k = 4))) rfl (fun hc3 => ?_) (fun hc3 => ?_)
            · skip
              refine At.seq ?_
              refine At.region ?_
              refine At.fieldAddr rfl fo75_0 rfl ?_
              refine At.fieldAddr rfl fo35_1 rfl ?_
              refine At.load rfl (Ld.ownCell ag23 hb1 (hp).c1) rfl ?_
              refine At.makeFunc rfl rfl ?_
              refine At.call en51 rfl rfl (containsF_Dat p.dv p.dats 52 [.pointer (some ⟨b2, 0, none⟩)] (datIs u1.nm) _ (((hp).datsAt).keep hB) (fun u hu => ((hp).datOk u hu).keep hB) en52 hz.hl.2 (fun u w1 hw hu => clo_Dat u b2 u1 w1 (hu.keep hw) (hT u1 (List.mem_of_getElem? hu1)) (Below.old hw hb2))) (fun e w8 hR => ?_)
              obtain ⟨rfl, hbl1⟩ := hR
              refine ⟨_, rfl, ?_⟩
              replace hb1 := Below.old hbl1 hb1
              replace hb2 := Below.old hbl1 hb2
              replace hB := Below.andThen hB hbl1
              refine At.not rfl rfl ?_
              refine At.ops0 ?_
              refine At.thenN ?_
              refine At.cond (b := (!(p.dats.any (datIs u1.nm)))) rfl (fun hc4 => ?_) (fun hc4 => ?_)
              · skip
                refine At.seq ?_
                refine At.region ?_
                refine At.assign rfl rfl ?_
                refine At.ops0 ?_
                refine At.thenN ?_
                refine At.retc ?_
                refine At.inR ?_
                refine At.inR ?_
                refine At.thenR ?_
                refine At.thenR ?_
                refine At.inR ?_
                refine At.thenR ?_
                refine At.doneR (ResV.tmp rfl ResV.nil) ?_
                have hkn : knownT p.dats u1 = false := kb_2 hc2 hc3 hc4
                exact ⟨congrArg Ending.returned (congrArg Value.bool (Eq.symm (by rw [← hn, drop_cons hu1, List.all_cons, hkn]; rfl))), hB⟩
              · skip
                refine At.skip ?_
                refine At.inN ?_
                refine At.inN ?_
                refine At.thenN ?_
                refine At.region ?_
                refine At.addI rfl rfl rfl (by omega) ?_
                refine At.move rfl rfl ?_
                refine At.ops0 ?_
                refine At.thenN ?_
                have hkn : knownT p.dats u1 = true := kb_3 hc2 hc3 hc4
                exact fun a ha => ⟨(k + 1), ha.sub (Sub.cons rfl (Sub.cons rfl (Sub.cons rfl (Sub.cons rfl Sub.nil)))), ⟨hB, hb1, (by omega), (by rw [← hn, drop_cons hu1, List.all_cons, hkn]; rfl)⟩, by first | omega | (dsimp only; omega)⟩
            · skip
              refine At.seq ?_
              refine At.region ?_
              refine At.assign rfl rfl ?_
              refine At.ops0 ?_
              refine At.thenN ?_
              refine At.retc ?_
              refine At.inR ?_
              refine At.inR ?_
              refine At.thenR ?_
              refine At.thenR ?_
              refine At.inR ?_
              refine At.thenR ?_
              refine At.doneR (ResV.tmp rfl ResV.nil) ?_
              have hkn : knownT p.dats u1 = false := kb_4 hc2 hc3
              exact ⟨congrArg Ending.returned (congrArg Value.bool (Eq.symm (by rw [← hn, drop_cons hu1, List.all_cons, hkn]; rfl))), hB⟩
  · skip
    have hc1' := of_decide_eq_false hc1
    refine At.exit ?_
    refine At.thenE ?_
    refine At.thenE ?_
    refine At.inE ?_
    refine At.thenN ?_
    refine At.seq ?_
    refine At.region ?_
    refine At.assign rfl rfl ?_
    refine At.ops0 ?_
    refine At.thenN ?_
    refine At.retc ?_
    refine At.doneR (ResV.tmp rfl ResV.nil) ?_
    exact ⟨congrArg Ending.returned (congrArg Value.bool (Eq.symm (by rw [← hn, List.drop_eq_nil_of_le (by omega)]; rfl))), hB⟩
end Go.Proofs.Ytkclfcdppnlkbaa
