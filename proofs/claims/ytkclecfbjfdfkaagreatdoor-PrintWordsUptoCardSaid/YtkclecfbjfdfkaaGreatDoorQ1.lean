/-
 The walks of what tells whether names, types, terms can be written. Written by a program of ours.
-/
import Derived.Test.YtkclecfbjfdfkaaGreatDoorV3
import Derived.Test.YtkclecfbjfdfkaaGreatDoorP1
set_option linter.unusedVariables false
set_option linter.unusedSimpArgs false
namespace Go.Proofs.YtkclecfbjfdfkaaGreatDoor
open Go.RowKit
theorem ag24 : aggB Tryz.prog 24 = some false := by kernel_rfl
theorem ag25 : aggB Tryz.prog 25 = some false := by kernel_rfl
theorem ag26 : aggB Tryz.prog 26 = some false := by kernel_rfl
theorem ag27 : aggB Tryz.prog 27 = some false := by kernel_rfl
theorem ag31 : aggB Tryz.prog 31 = some true := by kernel_rfl
theorem ag33 : aggB Tryz.prog 33 = some true := by kernel_rfl
theorem ag48 : aggB Tryz.prog 48 = some true := by kernel_rfl
theorem el24 : elemB Tryz.prog 24 = some 33 := by kernel_rfl
theorem el25 : elemB Tryz.prog 25 = some 48 := by kernel_rfl
theorem el26 : elemB Tryz.prog 26 = some 31 := by kernel_rfl
theorem en115 : entB Tryz.prog 115 = true := by kernel_rfl
theorem en116 : entB Tryz.prog 116 = true := by kernel_rfl
theorem en117 : entB Tryz.prog 117 = true := by kernel_rfl
theorem en15 : entB Tryz.prog 15 = true := by kernel_rfl
theorem en27 : entB Tryz.prog 27 = true := by kernel_rfl
theorem en54 : entB Tryz.prog 54 = true := by kernel_rfl
theorem en55 : entB Tryz.prog 55 = true := by kernel_rfl
theorem en56 : entB Tryz.prog 56 = true := by kernel_rfl
theorem en57 : entB Tryz.prog 57 = true := by kernel_rfl
theorem en58 : entB Tryz.prog 58 = true := by kernel_rfl
theorem en83 : entB Tryz.prog 83 = true := by kernel_rfl
theorem en90 : entB Tryz.prog 90 = true := by kernel_rfl
theorem fo29_0 : fieldB Tryz.prog 29 0 = some (0, 1) := by kernel_rfl
theorem fo29_1 : fieldB Tryz.prog 29 1 = some (1, 1) := by kernel_rfl
theorem fo31_0 : fieldB Tryz.prog 31 0 = some (0, 1) := by kernel_rfl
theorem fo31_1 : fieldB Tryz.prog 31 1 = some (1, 1) := by kernel_rfl
theorem fo31_2 : fieldB Tryz.prog 31 2 = some (2, 1) := by kernel_rfl
theorem fo31_3 : fieldB Tryz.prog 31 3 = some (3, 1) := by kernel_rfl
theorem fo31_4 : fieldB Tryz.prog 31 4 = some (4, 2) := by kernel_rfl
theorem fo33_0 : fieldB Tryz.prog 33 0 = some (0, 1) := by kernel_rfl
theorem fo33_2 : fieldB Tryz.prog 33 2 = some (2, 1) := by kernel_rfl
theorem fo33_3 : fieldB Tryz.prog 33 3 = some (3, 1) := by kernel_rfl
theorem fo33_4 : fieldB Tryz.prog 33 4 = some (4, 1) := by kernel_rfl
theorem fo33_5 : fieldB Tryz.prog 33 5 = some (5, 1) := by kernel_rfl
theorem fo33_6 : fieldB Tryz.prog 33 6 = some (6, 1) := by kernel_rfl
theorem fo48_0 : fieldB Tryz.prog 48 0 = some (0, 1) := by kernel_rfl
theorem sz31 : sizeB Tryz.prog 31 = some 6 := by kernel_rfl
theorem sz33 : sizeB Tryz.prog 33 = some 21 := by kernel_rfl
theorem sz48 : sizeB Tryz.prog 48 = some 23 := by kernel_rfl
theorem index_any (v : Value) (ss : List ByteArray) (s : ByteArray) (w : World) (hv : StrsAt w v ss) (hl : ss.length ≤ 9223372036854775807) :
  Calls Tryz.prog 117 ([v, .string s] : List Value).toArray w fun e w' => e = .returned (.int .i64 (idxI (fun x : ByteArray => decide (x = s)) ss)) ∧ w = w' := by
 have hB := Below.refl w.heap.size w
 refine At.enter (N := 19) Tryz.func117 rfl rfl (by simp) [(0, v), (1, .string s)] (by simp) ?_
 refine At.seq ?_
 refine At.region ?_
 refine At.assign rfl rfl ?_
 refine At.ops0 ?_
 refine At.thenN ?_
 refine At.seq ?_
 refine At.seq ?_
 refine At.region ?_
 refine At.move rfl rfl ?_
 refine At.lenSl rfl (hv).ok el27 rfl ?_
 refine At.move rfl rfl ?_
 refine At.ops0 ?_
 refine At.thenN ?_
 refine At.block ?_
 refine At.loop (Nat) (fun k => [(0, v), (1, .string s), (7, .int .i64 (ss.length : Int)), (8, .int .i64 (k : Int))]) (fun k w1 => w = w1 ∧ (k ≤ ss.length) ∧ (∀ i x, i < k → ss[i]? = some x → (fun x : ByteArray => decide (x = s)) x = false)) (fun k => ss.length - k) (0 : Nat) (Sub.cons rfl (Sub.cons rfl (Sub.cons rfl (Sub.cons rfl Sub.nil)))) ⟨rfl, (Nat.zero_le _), (fun j x hj => absurd hj (Nat.not_lt_zero j))⟩ (fun k w1 hI => ?_)
 obtain ⟨rfl, hk, hn⟩ := hI
 show At _ _ [(0, v), (1, .string s), (7, .int .i64 (ss.length : Int)), (8, .int .i64 (k : Int))] _ _
 refine At.seq ?_
 refine At.region ?_
 refine At.lss rfl rfl rfl ?_
 refine At.ops0 ?_
 refine At.thenN ?_
 refine At.seq ?_
 refine At.cond (b := decide ((k : Int) < (ss.length : Int))) rfl (fun hc1 => ?_) (fun hc1 => ?_)
 ·skip
  have hc1' := of_decide_eq_true hc1
  refine At.skip ?_
  refine At.thenN ?_
  refine At.seq ?_
  refine At.block ?_
  refine At.seq ?_
  refine At.region ?_
  refine At.move rfl rfl ?_
  refine At.assign rfl rfl ?_
  refine At.ops0 ?_
  refine At.thenN ?_
  refine At.seq ?_
  refine At.region ?_
  refine At.move rfl rfl ?_
  refine At.move rfl rfl ?_
  refine At.move rfl rfl ?_
  obtain ⟨u1, hu1⟩ := some_of_lt (l := ss) (i := k) (by omega)
  refine At.indexAddr (i := k) rfl rfl (hv).ok (lt_of_some hu1) el27 sz9 rfl ?_
  refine At.load rfl (Ld.cell ag9 (cell_keep ((hv).get hu1) hB)) rfl ?_
  refine At.eqS rfl rfl rfl ?_
  refine At.ops0 ?_
  refine At.thenN ?_
  refine At.cond (b := decide (s = u1)) rfl (fun hc2 => ?_) (fun hc2 => ?_)
  ·skip
   have hc2' := of_decide_eq_true hc2
   refine At.seq ?_
   refine At.region ?_
   refine At.move rfl rfl ?_
   refine At.assign rfl rfl ?_
   refine At.ops0 ?_
   refine At.thenN ?_
   refine At.retc ?_
   refine At.inR ?_
   refine At.thenR ?_
   refine At.thenR ?_
   refine At.inR ?_
   refine At.thenR ?_
   refine At.doneR (ResV.tmp rfl ResV.nil) ?_
   exact ⟨congrArg Ending.returned (congrArg (Value.int .i64) (idxI_yes hu1 (by simpa using hc2'.symm) hn).symm), rfl⟩
  ·skip
   have hc2' := of_decide_eq_false hc2
   refine At.skip ?_
   refine At.inN ?_
   refine At.thenN ?_
   refine At.region ?_
   refine At.addI rfl rfl rfl (by omega) ?_
   refine At.move rfl rfl ?_
   refine At.ops0 ?_
   refine At.thenN ?_
   exact fun act_ hact_ => ⟨(k + 1), hact_.sub (Sub.cons rfl (Sub.cons rfl (Sub.cons rfl (Sub.cons rfl Sub.nil)))), ⟨rfl, (by omega), (next_no hn hu1 (by simpa using fun e : u1 = s => hc2' e.symm))⟩, by first | omega | (dsimp only; omega)⟩
 ·skip
  have hc1' := of_decide_eq_false hc1
  refine At.exit ?_
  refine At.thenE ?_
  refine At.thenE ?_
  refine At.inE ?_
  refine At.thenN ?_
  refine At.seq ?_
  refine At.region ?_
  refine At.assign rfl rfl ?_
  refine At.ops0 ?_
  refine At.thenN ?_
  refine At.retc ?_
  refine At.doneR (ResV.tmp rfl ResV.nil) ?_
  exact ⟨congrArg Ending.returned (congrArg (Value.int .i64) (idxI_no (by omega) hn).symm), rfl⟩
theorem contains_any (v : Value) (ss : List ByteArray) (s : ByteArray) (w : World) (hv : StrsAt w v ss) (hl : ss.length ≤ 9223372036854775807) :
  Calls Tryz.prog 90 ([v, .string s] : List Value).toArray w fun e w' => e = .returned (.bool (memB s ss)) ∧ w = w' := by
 have hB := Below.refl w.heap.size w
 refine At.enter (N := 9) Tryz.func90 rfl rfl (by simp) [(0, v), (1, .string s)] (by simp) ?_
 refine At.seq ?_
 refine At.region ?_
 refine At.assign rfl rfl ?_
 refine At.ops0 ?_
 refine At.thenN ?_
 refine At.seq ?_
 refine At.region ?_
 refine At.move rfl rfl ?_
 refine At.move rfl rfl ?_
 refine At.call en117 rfl rfl (index_any v ss s _ ((hv).keep hB) (by omega)) (fun e w' hR => ?_)
 obtain ⟨rfl, rfl⟩ := hR
 refine ⟨_, rfl, ?_⟩
 refine At.geq rfl rfl rfl ?_
 refine At.assign rfl rfl ?_
 refine At.ops0 ?_
 refine At.thenN ?_
 refine At.retc ?_
 refine At.doneR (ResV.tmp rfl ResV.nil) ?_
 exact ⟨congrArg Ending.returned (congrArg Value.bool (idxI_geq _ _)), rfl⟩
theorem indexF_Ty (v : Value) (l : List Ty) (c : FuncId) (cap : List Value) (p : Ty → Bool) (w : World) (hv : RowsAt w v 6 (l.map Ty.cs)) (hE : ∀ u ∈ l, TyOk u) (hent : entB Tryz.prog c = true) (hl : l.length ≤ 9223372036854775807)
  (hclo : ∀ (u : Ty) (w1 : World), Below w.heap.size w w1 → u ∈ l → Calls Tryz.prog c ([.agg u.cs] ++ cap : List Value).toArray w1 fun e w2 => e = .returned (.bool (p u)) ∧ Below w1.heap.size w1 w2) :
  Calls Tryz.prog 83 ([v, .func (.func c) #[] cap.toArray] : List Value).toArray w fun e w' => e = .returned (.int .i64 (idxI p l)) ∧ Below w.heap.size w w' := by
 have hB := Below.refl w.heap.size w
 refine At.enter (N := 19) Tryz.func83 rfl rfl (by simp) [(0, v), (1, .func (.func c) #[] cap.toArray)] (by simp) ?_
 refine At.seq ?_
 refine At.region ?_
 refine At.assign rfl rfl ?_
 refine At.ops0 ?_
 refine At.thenN ?_
 refine At.seq ?_
 refine At.seq ?_
 refine At.region ?_
 refine At.move rfl rfl ?_
 refine At.lenSl rfl hv.okL el26 rfl ?_
 refine At.move rfl rfl ?_
 refine At.ops0 ?_
 refine At.thenN ?_
 refine At.block ?_
 refine At.loop (Nat) (fun k => [(0, v), (1, .func (.func c) #[] cap.toArray), (7, .int .i64 (l.length : Int)), (8, .int .i64 (k : Int))]) (fun k w1 => Below w.heap.size w w1 ∧ (k ≤ l.length) ∧ (∀ i x, i < k → l[i]? = some x → p x = false)) (fun k => l.length - k) (0 : Nat) (Sub.cons rfl (Sub.cons rfl (Sub.cons rfl (Sub.cons rfl Sub.nil)))) ⟨hB, (Nat.zero_le _), (fun j x hj => absurd hj (Nat.not_lt_zero j))⟩ (fun k w1 hI => ?_)
 clear hB
 obtain ⟨hB, hk, hn⟩ := hI
 show At _ _ [(0, v), (1, .func (.func c) #[] cap.toArray), (7, .int .i64 (l.length : Int)), (8, .int .i64 (k : Int))] _ _
 refine At.seq ?_
 refine At.region ?_
 refine At.lss rfl rfl rfl ?_
 refine At.ops0 ?_
 refine At.thenN ?_
 refine At.seq ?_
 refine At.cond (b := decide ((k : Int) < (l.length : Int))) rfl (fun hc1 => ?_) (fun hc1 => ?_)
 ·skip
  have hc1' := of_decide_eq_true hc1
  refine At.skip ?_
  refine At.thenN ?_
  refine At.seq ?_
  refine At.block ?_
  refine At.seq ?_
  refine At.region ?_
  refine At.move rfl rfl ?_
  refine At.assign rfl rfl ?_
  refine At.ops0 ?_
  refine At.thenN ?_
  refine At.seq ?_
  refine At.region ?_
  refine At.move rfl rfl ?_
  refine At.move rfl rfl ?_
  refine At.move rfl rfl ?_
  obtain ⟨u1, hu1⟩ := some_of_lt (l := l) (i := k) (by omega)
  refine At.indexAddr (i := k) rfl rfl hv.okL (lt_of_some hu1) el26 sz31 rfl ?_
  refine At.load rfl (Ld.row ag31 (sz31.trans (congrArg some ((hE u1 (List.mem_of_getElem? hu1))).size.symm)) (((hv).row hu1).keep hB)) rfl ?_
  refine At.callV rfl hent rfl rfl (hclo u1 _ hB (List.mem_of_getElem? hu1)) (fun e w2 hR => ?_)
  obtain ⟨rfl, hbl1⟩ := hR
  refine ⟨_, rfl, ?_⟩
  replace hB := Below.andThen hB hbl1
  refine At.ops0 ?_
  refine At.thenN ?_
  refine At.cond (b := (p u1)) rfl (fun hc2 => ?_) (fun hc2 => ?_)
  ·skip
   refine At.seq ?_
   refine At.region ?_
   refine At.move rfl rfl ?_
   refine At.assign rfl rfl ?_
   refine At.ops0 ?_
   refine At.thenN ?_
   refine At.retc ?_
   refine At.inR ?_
   refine At.thenR ?_
   refine At.thenR ?_
   refine At.inR ?_
   refine At.thenR ?_
   refine At.doneR (ResV.tmp rfl ResV.nil) ?_
   exact ⟨congrArg Ending.returned (congrArg (Value.int .i64) (idxI_yes hu1 hc2 hn).symm), hB⟩
  ·skip
   refine At.skip ?_
   refine At.inN ?_
   refine At.thenN ?_
   refine At.region ?_
   refine At.addI rfl rfl rfl (by omega) ?_
   refine At.move rfl rfl ?_
   refine At.ops0 ?_
   refine At.thenN ?_
   exact fun act_ hact_ => ⟨(k + 1), hact_.sub (Sub.cons rfl (Sub.cons rfl (Sub.cons rfl (Sub.cons rfl Sub.nil)))), ⟨hB, (by omega), (next_no hn hu1 hc2)⟩, by first | omega | (dsimp only; omega)⟩
 ·skip
  have hc1' := of_decide_eq_false hc1
  refine At.exit ?_
  refine At.thenE ?_
  refine At.thenE ?_
  refine At.inE ?_
  refine At.thenN ?_
  refine At.seq ?_
  refine At.region ?_
  refine At.assign rfl rfl ?_
  refine At.ops0 ?_
  refine At.thenN ?_
  refine At.retc ?_
  refine At.doneR (ResV.tmp rfl ResV.nil) ?_
  exact ⟨congrArg Ending.returned (congrArg (Value.int .i64) (idxI_no (by omega) hn).symm), hB⟩
theorem containsF_Ty (v : Value) (l : List Ty) (c : FuncId) (cap : List Value) (p : Ty → Bool) (w : World) (hv : RowsAt w v 6 (l.map Ty.cs)) (hE : ∀ u ∈ l, TyOk u) (hent : entB Tryz.prog c = true) (hl : l.length ≤ 9223372036854775807)
  (hclo : ∀ (u : Ty) (w1 : World), Below w.heap.size w w1 → u ∈ l → Calls Tryz.prog c ([.agg u.cs] ++ cap : List Value).toArray w1 fun e w2 => e = .returned (.bool (p u)) ∧ Below w1.heap.size w1 w2) :
  Calls Tryz.prog 56 ([v, .func (.func c) #[] cap.toArray] : List Value).toArray w fun e w' => e = .returned (.bool (l.any p)) ∧ Below w.heap.size w w' := by
 have hB := Below.refl w.heap.size w
 refine At.enter (N := 9) Tryz.func56 rfl rfl (by simp) [(0, v), (1, .func (.func c) #[] cap.toArray)] (by simp) ?_
 refine At.seq ?_
 refine At.region ?_
 refine At.assign rfl rfl ?_
 refine At.ops0 ?_
 refine At.thenN ?_
 refine At.seq ?_
 refine At.region ?_
 refine At.move rfl rfl ?_
 refine At.move rfl rfl ?_
 refine At.call en83 rfl rfl (indexF_Ty v l c cap p _ hv hE hent hl hclo) (fun e w1 hR => ?_)
 obtain ⟨rfl, hbl1⟩ := hR
 refine ⟨_, rfl, ?_⟩
 replace hB := Below.andThen hB hbl1
 refine At.geq rfl rfl rfl ?_
 refine At.assign rfl rfl ?_
 refine At.ops0 ?_
 refine At.thenN ?_
 refine At.retc ?_
 refine At.doneR (ResV.tmp rfl ResV.nil) ?_
 exact ⟨congrArg Ending.returned (congrArg Value.bool (idxI_geq p l)), hB⟩
theorem indexF_Tm (v : Value) (l : List Tm) (c : FuncId) (cap : List Value) (p : Tm → Bool) (w : World) (hv : RowsAt w v 21 (l.map Tm.cs)) (hE : ∀ u ∈ l, TmOk w u) (hent : entB Tryz.prog c = true) (hl : l.length ≤ 9223372036854775807)
  (hclo : ∀ (u : Tm) (w1 : World), Below w.heap.size w w1 → u ∈ l → Calls Tryz.prog c ([.agg u.cs] ++ cap : List Value).toArray w1 fun e w2 => e = .returned (.bool (p u)) ∧ Below w1.heap.size w1 w2) :
  Calls Tryz.prog 115 ([v, .func (.func c) #[] cap.toArray] : List Value).toArray w fun e w' => e = .returned (.int .i64 (idxI p l)) ∧ Below w.heap.size w w' := by
 have hB := Below.refl w.heap.size w
 refine At.enter (N := 19) Tryz.func115 rfl rfl (by simp) [(0, v), (1, .func (.func c) #[] cap.toArray)] (by simp) ?_
 refine At.seq ?_
 refine At.region ?_
 refine At.assign rfl rfl ?_
 refine At.ops0 ?_
 refine At.thenN ?_
 refine At.seq ?_
 refine At.seq ?_
 refine At.region ?_
 refine At.move rfl rfl ?_
 refine At.lenSl rfl hv.okL el24 rfl ?_
 refine At.move rfl rfl ?_
 refine At.ops0 ?_
 refine At.thenN ?_
 refine At.block ?_
 refine At.loop (Nat) (fun k => [(0, v), (1, .func (.func c) #[] cap.toArray), (7, .int .i64 (l.length : Int)), (8, .int .i64 (k : Int))]) (fun k w1 => Below w.heap.size w w1 ∧ (k ≤ l.length) ∧ (∀ i x, i < k → l[i]? = some x → p x = false)) (fun k => l.length - k) (0 : Nat) (Sub.cons rfl (Sub.cons rfl (Sub.cons rfl (Sub.cons rfl Sub.nil)))) ⟨hB, (Nat.zero_le _), (fun j x hj => absurd hj (Nat.not_lt_zero j))⟩ (fun k w1 hI => ?_)
 clear hB
 obtain ⟨hB, hk, hn⟩ := hI
 show At _ _ [(0, v), (1, .func (.func c) #[] cap.toArray), (7, .int .i64 (l.length : Int)), (8, .int .i64 (k : Int))] _ _
 refine At.seq ?_
 refine At.region ?_
 refine At.lss rfl rfl rfl ?_
 refine At.ops0 ?_
 refine At.thenN ?_
 refine At.seq ?_
 refine At.cond (b := decide ((k : Int) < (l.length : Int))) rfl (fun hc1 => ?_) (fun hc1 => ?_)
 ·skip
  have hc1' := of_decide_eq_true hc1
  refine At.skip ?_
  refine At.thenN ?_
  refine At.seq ?_
  refine At.block ?_
  refine At.seq ?_
  refine At.region ?_
  refine At.move rfl rfl ?_
  refine At.assign rfl rfl ?_
  refine At.ops0 ?_
  refine At.thenN ?_
  refine At.seq ?_
  refine At.region ?_
  refine At.move rfl rfl ?_
  refine At.move rfl rfl ?_
  refine At.move rfl rfl ?_
  obtain ⟨u1, hu1⟩ := some_of_lt (l := l) (i := k) (by omega)
  refine At.indexAddr (i := k) rfl rfl hv.okL (lt_of_some hu1) el24 sz33 rfl ?_
  refine At.load rfl (Ld.row ag33 (sz33.trans (congrArg some ((hE u1 (List.mem_of_getElem? hu1))).size.symm)) (((hv).row hu1).keep hB)) rfl ?_
  refine At.callV rfl hent rfl rfl (hclo u1 _ hB (List.mem_of_getElem? hu1)) (fun e w2 hR => ?_)
  obtain ⟨rfl, hbl1⟩ := hR
  refine ⟨_, rfl, ?_⟩
  replace hB := Below.andThen hB hbl1
  refine At.ops0 ?_
  refine At.thenN ?_
  refine At.cond (b := (p u1)) rfl (fun hc2 => ?_) (fun hc2 => ?_)
  ·skip
   refine At.seq ?_
   refine At.region ?_
   refine At.move rfl rfl ?_
   refine At.assign rfl rfl ?_
   refine At.ops0 ?_
   refine At.thenN ?_
   refine At.retc ?_
   refine At.inR ?_
   refine At.thenR ?_
   refine At.thenR ?_
   refine At.inR ?_
   refine At.thenR ?_
   refine At.doneR (ResV.tmp rfl ResV.nil) ?_
   exact ⟨congrArg Ending.returned (congrArg (Value.int .i64) (idxI_yes hu1 hc2 hn).symm), hB⟩
  ·skip
   refine At.skip ?_
   refine At.inN ?_
   refine At.thenN ?_
   refine At.region ?_
   refine At.addI rfl rfl rfl (by omega) ?_
   refine At.move rfl rfl ?_
   refine At.ops0 ?_
   refine At.thenN ?_
   exact fun act_ hact_ => ⟨(k + 1), hact_.sub (Sub.cons rfl (Sub.cons rfl (Sub.cons rfl (Sub.cons rfl Sub.nil)))), ⟨hB, (by omega), (next_no hn hu1 hc2)⟩, by first | omega | (dsimp only; omega)⟩
 ·skip
  have hc1' := of_decide_eq_false hc1
  refine At.exit ?_
  refine At.thenE ?_
  refine At.thenE ?_
  refine At.inE ?_
  refine At.thenN ?_
  refine At.seq ?_
  refine At.region ?_
  refine At.assign rfl rfl ?_
  refine At.ops0 ?_
  refine At.thenN ?_
  refine At.retc ?_
  refine At.doneR (ResV.tmp rfl ResV.nil) ?_
  exact ⟨congrArg Ending.returned (congrArg (Value.int .i64) (idxI_no (by omega) hn).symm), hB⟩
theorem containsF_Tm (v : Value) (l : List Tm) (c : FuncId) (cap : List Value) (p : Tm → Bool) (w : World) (hv : RowsAt w v 21 (l.map Tm.cs)) (hE : ∀ u ∈ l, TmOk w u) (hent : entB Tryz.prog c = true) (hl : l.length ≤ 9223372036854775807)
  (hclo : ∀ (u : Tm) (w1 : World), Below w.heap.size w w1 → u ∈ l → Calls Tryz.prog c ([.agg u.cs] ++ cap : List Value).toArray w1 fun e w2 => e = .returned (.bool (p u)) ∧ Below w1.heap.size w1 w2) :
  Calls Tryz.prog 85 ([v, .func (.func c) #[] cap.toArray] : List Value).toArray w fun e w' => e = .returned (.bool (l.any p)) ∧ Below w.heap.size w w' := by
 have hB := Below.refl w.heap.size w
 refine At.enter (N := 9) Tryz.func85 rfl rfl (by simp) [(0, v), (1, .func (.func c) #[] cap.toArray)] (by simp) ?_
 refine At.seq ?_
 refine At.region ?_
 refine At.assign rfl rfl ?_
 refine At.ops0 ?_
 refine At.thenN ?_
 refine At.seq ?_
 refine At.region ?_
 refine At.move rfl rfl ?_
 refine At.move rfl rfl ?_
 refine At.call en115 rfl rfl (indexF_Tm v l c cap p _ hv hE hent hl hclo) (fun e w1 hR => ?_)
 obtain ⟨rfl, hbl1⟩ := hR
 refine ⟨_, rfl, ?_⟩
 replace hB := Below.andThen hB hbl1
 refine At.geq rfl rfl rfl ?_
 refine At.assign rfl rfl ?_
 refine At.ops0 ?_
 refine At.thenN ?_
 refine At.retc ?_
 refine At.doneR (ResV.tmp rfl ResV.nil) ?_
 exact ⟨congrArg Ending.returned (congrArg Value.bool (idxI_geq p l)), hB⟩
theorem indexF_Am (v : Value) (l : List Am) (c : FuncId) (cap : List Value) (p : Am → Bool) (w : World) (hv : RowsAt w v 23 (l.map Am.cs)) (hE : ∀ u ∈ l, AmOk w u) (hent : entB Tryz.prog c = true) (hl : l.length ≤ 9223372036854775807)
  (hclo : ∀ (u : Am) (w1 : World), Below w.heap.size w w1 → u ∈ l → Calls Tryz.prog c ([.agg u.cs] ++ cap : List Value).toArray w1 fun e w2 => e = .returned (.bool (p u)) ∧ Below w1.heap.size w1 w2) :
  Calls Tryz.prog 116 ([v, .func (.func c) #[] cap.toArray] : List Value).toArray w fun e w' => e = .returned (.int .i64 (idxI p l)) ∧ Below w.heap.size w w' := by
 have hB := Below.refl w.heap.size w
 refine At.enter (N := 19) Tryz.func116 rfl rfl (by simp) [(0, v), (1, .func (.func c) #[] cap.toArray)] (by simp) ?_
 refine At.seq ?_
 refine At.region ?_
 refine At.assign rfl rfl ?_
 refine At.ops0 ?_
 refine At.thenN ?_
 refine At.seq ?_
 refine At.seq ?_
 refine At.region ?_
 refine At.move rfl rfl ?_
 refine At.lenSl rfl hv.okL el25 rfl ?_
 refine At.move rfl rfl ?_
 refine At.ops0 ?_
 refine At.thenN ?_
 refine At.block ?_
 refine At.loop (Nat) (fun k => [(0, v), (1, .func (.func c) #[] cap.toArray), (7, .int .i64 (l.length : Int)), (8, .int .i64 (k : Int))]) (fun k w1 => Below w.heap.size w w1 ∧ (k ≤ l.length) ∧ (∀ i x, i < k → l[i]? = some x → p x = false)) (fun k => l.length - k) (0 : Nat) (Sub.cons rfl (Sub.cons rfl (Sub.cons rfl (Sub.cons rfl Sub.nil)))) ⟨hB, (Nat.zero_le _), (fun j x hj => absurd hj (Nat.not_lt_zero j))⟩ (fun k w1 hI => ?_)
 clear hB
 obtain ⟨hB, hk, hn⟩ := hI
 show At _ _ [(0, v), (1, .func (.func c) #[] cap.toArray), (7, .int .i64 (l.length : Int)), (8, .int .i64 (k : Int))] _ _
 refine At.seq ?_
 refine At.region ?_
 refine At.lss rfl rfl rfl ?_
 refine At.ops0 ?_
 refine At.thenN ?_
 refine At.seq ?_
 refine At.cond (b := decide ((k : Int) < (l.length : Int))) rfl (fun hc1 => ?_) (fun hc1 => ?_)
 ·skip
  have hc1' := of_decide_eq_true hc1
  refine At.skip ?_
  refine At.thenN ?_
  refine At.seq ?_
  refine At.block ?_
  refine At.seq ?_
  refine At.region ?_
  refine At.move rfl rfl ?_
  refine At.assign rfl rfl ?_
  refine At.ops0 ?_
  refine At.thenN ?_
  refine At.seq ?_
  refine At.region ?_
  refine At.move rfl rfl ?_
  refine At.move rfl rfl ?_
  refine At.move rfl rfl ?_
  obtain ⟨u1, hu1⟩ := some_of_lt (l := l) (i := k) (by omega)
  refine At.indexAddr (i := k) rfl rfl hv.okL (lt_of_some hu1) el25 sz48 rfl ?_
  refine At.load rfl (Ld.row ag48 (sz48.trans (congrArg some ((hE u1 (List.mem_of_getElem? hu1))).size.symm)) (((hv).row hu1).keep hB)) rfl ?_
  refine At.callV rfl hent rfl rfl (hclo u1 _ hB (List.mem_of_getElem? hu1)) (fun e w2 hR => ?_)
  obtain ⟨rfl, hbl1⟩ := hR
  refine ⟨_, rfl, ?_⟩
  replace hB := Below.andThen hB hbl1
  refine At.ops0 ?_
  refine At.thenN ?_
  refine At.cond (b := (p u1)) rfl (fun hc2 => ?_) (fun hc2 => ?_)
  ·skip
   refine At.seq ?_
   refine At.region ?_
   refine At.move rfl rfl ?_
   refine At.assign rfl rfl ?_
   refine At.ops0 ?_
   refine At.thenN ?_
   refine At.retc ?_
   refine At.inR ?_
   refine At.thenR ?_
   refine At.thenR ?_
   refine At.inR ?_
   refine At.thenR ?_
   refine At.doneR (ResV.tmp rfl ResV.nil) ?_
   exact ⟨congrArg Ending.returned (congrArg (Value.int .i64) (idxI_yes hu1 hc2 hn).symm), hB⟩
  ·skip
   refine At.skip ?_
   refine At.inN ?_
   refine At.thenN ?_
   refine At.region ?_
   refine At.addI rfl rfl rfl (by omega) ?_
   refine At.move rfl rfl ?_
   refine At.ops0 ?_
   refine At.thenN ?_
   exact fun act_ hact_ => ⟨(k + 1), hact_.sub (Sub.cons rfl (Sub.cons rfl (Sub.cons rfl (Sub.cons rfl Sub.nil)))), ⟨hB, (by omega), (next_no hn hu1 hc2)⟩, by first | omega | (dsimp only; omega)⟩
 ·skip
  have hc1' := of_decide_eq_false hc1
  refine At.exit ?_
  refine At.thenE ?_
  refine At.thenE ?_
  refine At.inE ?_
  refine At.thenN ?_
  refine At.seq ?_
  refine At.region ?_
  refine At.assign rfl rfl ?_
  refine At.ops0 ?_
  refine At.thenN ?_
  refine At.retc ?_
  refine At.doneR (ResV.tmp rfl ResV.nil) ?_
  exact ⟨congrArg Ending.returned (congrArg (Value.int .i64) (idxI_no (by omega) hn).symm), hB⟩
theorem containsF_Am (v : Value) (l : List Am) (c : FuncId) (cap : List Value) (p : Am → Bool) (w : World) (hv : RowsAt w v 23 (l.map Am.cs)) (hE : ∀ u ∈ l, AmOk w u) (hent : entB Tryz.prog c = true) (hl : l.length ≤ 9223372036854775807)
  (hclo : ∀ (u : Am) (w1 : World), Below w.heap.size w w1 → u ∈ l → Calls Tryz.prog c ([.agg u.cs] ++ cap : List Value).toArray w1 fun e w2 => e = .returned (.bool (p u)) ∧ Below w1.heap.size w1 w2) :
  Calls Tryz.prog 87 ([v, .func (.func c) #[] cap.toArray] : List Value).toArray w fun e w' => e = .returned (.bool (l.any p)) ∧ Below w.heap.size w w' := by
 have hB := Below.refl w.heap.size w
 refine At.enter (N := 9) Tryz.func87 rfl rfl (by simp) [(0, v), (1, .func (.func c) #[] cap.toArray)] (by simp) ?_
 refine At.seq ?_
 refine At.region ?_
 refine At.assign rfl rfl ?_
 refine At.ops0 ?_
 refine At.thenN ?_
 refine At.seq ?_
 refine At.region ?_
 refine At.move rfl rfl ?_
 refine At.move rfl rfl ?_
 refine At.call en116 rfl rfl (indexF_Am v l c cap p _ hv hE hent hl hclo) (fun e w1 hR => ?_)
 obtain ⟨rfl, hbl1⟩ := hR
 refine ⟨_, rfl, ?_⟩
 replace hB := Below.andThen hB hbl1
 refine At.geq rfl rfl rfl ?_
 refine At.assign rfl rfl ?_
 refine At.ops0 ?_
 refine At.thenN ?_
 refine At.retc ?_
 refine At.doneR (ResV.tmp rfl ResV.nil) ?_
 exact ⟨congrArg Ending.returned (congrArg Value.bool (idxI_geq p l)), hB⟩
theorem indexF_str (v : Value) (l : List ByteArray) (c : FuncId) (cap : List Value) (p : ByteArray → Bool) (w : World) (hv : StrsAt w v l) (hent : entB Tryz.prog c = true) (hl : l.length ≤ 9223372036854775807)
  (hclo : ∀ (u : ByteArray) (w1 : World), Below w.heap.size w w1 → u ∈ l → Calls Tryz.prog c ([.string u] ++ cap : List Value).toArray w1 fun e w2 => e = .returned (.bool (p u)) ∧ Below w1.heap.size w1 w2) :
  Calls Tryz.prog 73 ([v, .func (.func c) #[] cap.toArray] : List Value).toArray w fun e w' => e = .returned (.int .i64 (idxI p l)) ∧ Below w.heap.size w w' := by
 have hB := Below.refl w.heap.size w
 refine At.enter (N := 19) Tryz.func73 rfl rfl (by simp) [(0, v), (1, .func (.func c) #[] cap.toArray)] (by simp) ?_
 refine At.seq ?_
 refine At.region ?_
 refine At.assign rfl rfl ?_
 refine At.ops0 ?_
 refine At.thenN ?_
 refine At.seq ?_
 refine At.seq ?_
 refine At.region ?_
 refine At.move rfl rfl ?_
 refine At.lenSl rfl (hv).ok el27 rfl ?_
 refine At.move rfl rfl ?_
 refine At.ops0 ?_
 refine At.thenN ?_
 refine At.block ?_
 refine At.loop (Nat) (fun k => [(0, v), (1, .func (.func c) #[] cap.toArray), (7, .int .i64 (l.length : Int)), (8, .int .i64 (k : Int))]) (fun k w1 => Below w.heap.size w w1 ∧ (k ≤ l.length) ∧ (∀ i x, i < k → l[i]? = some x → p x = false)) (fun k => l.length - k) (0 : Nat) (Sub.cons rfl (Sub.cons rfl (Sub.cons rfl (Sub.cons rfl Sub.nil)))) ⟨hB, (Nat.zero_le _), (fun j x hj => absurd hj (Nat.not_lt_zero j))⟩ (fun k w1 hI => ?_)
 clear hB
 obtain ⟨hB, hk, hn⟩ := hI
 show At _ _ [(0, v), (1, .func (.func c) #[] cap.toArray), (7, .int .i64 (l.length : Int)), (8, .int .i64 (k : Int))] _ _
 refine At.seq ?_
 refine At.region ?_
 refine At.lss rfl rfl rfl ?_
 refine At.ops0 ?_
 refine At.thenN ?_
 refine At.seq ?_
 refine At.cond (b := decide ((k : Int) < (l.length : Int))) rfl (fun hc1 => ?_) (fun hc1 => ?_)
 ·skip
  have hc1' := of_decide_eq_true hc1
  refine At.skip ?_
  refine At.thenN ?_
  refine At.seq ?_
  refine At.block ?_
  refine At.seq ?_
  refine At.region ?_
  refine At.move rfl rfl ?_
  refine At.assign rfl rfl ?_
  refine At.ops0 ?_
  refine At.thenN ?_
  refine At.seq ?_
  refine At.region ?_
  refine At.move rfl rfl ?_
  refine At.move rfl rfl ?_
  refine At.move rfl rfl ?_
  obtain ⟨u1, hu1⟩ := some_of_lt (l := l) (i := k) (by omega)
  refine At.indexAddr (i := k) rfl rfl (hv).ok (lt_of_some hu1) el27 sz9 rfl ?_
  refine At.load rfl (Ld.cell ag9 (cell_keep ((hv).get hu1) hB)) rfl ?_
  refine At.callV rfl hent rfl rfl (hclo u1 _ hB (List.mem_of_getElem? hu1)) (fun e w2 hR => ?_)
  obtain ⟨rfl, hbl1⟩ := hR
  refine ⟨_, rfl, ?_⟩
  replace hB := Below.andThen hB hbl1
  refine At.ops0 ?_
  refine At.thenN ?_
  refine At.cond (b := (p u1)) rfl (fun hc2 => ?_) (fun hc2 => ?_)
  ·skip
   refine At.seq ?_
   refine At.region ?_
   refine At.move rfl rfl ?_
   refine At.assign rfl rfl ?_
   refine At.ops0 ?_
   refine At.thenN ?_
   refine At.retc ?_
   refine At.inR ?_
   refine At.thenR ?_
   refine At.thenR ?_
   refine At.inR ?_
   refine At.thenR ?_
   refine At.doneR (ResV.tmp rfl ResV.nil) ?_
   exact ⟨congrArg Ending.returned (congrArg (Value.int .i64) (idxI_yes hu1 hc2 hn).symm), hB⟩
  ·skip
   refine At.skip ?_
   refine At.inN ?_
   refine At.thenN ?_
   refine At.region ?_
   refine At.addI rfl rfl rfl (by omega) ?_
   refine At.move rfl rfl ?_
   refine At.ops0 ?_
   refine At.thenN ?_
   exact fun act_ hact_ => ⟨(k + 1), hact_.sub (Sub.cons rfl (Sub.cons rfl (Sub.cons rfl (Sub.cons rfl Sub.nil)))), ⟨hB, (by omega), (next_no hn hu1 hc2)⟩, by first | omega | (dsimp only; omega)⟩
 ·skip
  have hc1' := of_decide_eq_false hc1
  refine At.exit ?_
  refine At.thenE ?_
  refine At.thenE ?_
  refine At.inE ?_
  refine At.thenN ?_
  refine At.seq ?_
  refine At.region ?_
  refine At.assign rfl rfl ?_
  refine At.ops0 ?_
  refine At.thenN ?_
  refine At.retc ?_
  refine At.doneR (ResV.tmp rfl ResV.nil) ?_
  exact ⟨congrArg Ending.returned (congrArg (Value.int .i64) (idxI_no (by omega) hn).symm), hB⟩
theorem containsF_str (v : Value) (l : List ByteArray) (c : FuncId) (cap : List Value) (p : ByteArray → Bool) (w : World) (hv : StrsAt w v l) (hent : entB Tryz.prog c = true) (hl : l.length ≤ 9223372036854775807)
  (hclo : ∀ (u : ByteArray) (w1 : World), Below w.heap.size w w1 → u ∈ l → Calls Tryz.prog c ([.string u] ++ cap : List Value).toArray w1 fun e w2 => e = .returned (.bool (p u)) ∧ Below w1.heap.size w1 w2) :
  Calls Tryz.prog 54 ([v, .func (.func c) #[] cap.toArray] : List Value).toArray w fun e w' => e = .returned (.bool (l.any p)) ∧ Below w.heap.size w w' := by
 have hB := Below.refl w.heap.size w
 refine At.enter (N := 9) Tryz.func54 rfl rfl (by simp) [(0, v), (1, .func (.func c) #[] cap.toArray)] (by simp) ?_
 refine At.seq ?_
 refine At.region ?_
 refine At.assign rfl rfl ?_
 refine At.ops0 ?_
 refine At.thenN ?_
 refine At.seq ?_
 refine At.region ?_
 refine At.move rfl rfl ?_
 refine At.move rfl rfl ?_
 refine At.call en73 rfl rfl (indexF_str v l c cap p _ hv hent hl hclo) (fun e w1 hR => ?_)
 obtain ⟨rfl, hbl1⟩ := hR
 refine ⟨_, rfl, ?_⟩
 replace hB := Below.andThen hB hbl1
 refine At.geq rfl rfl rfl ?_
 refine At.assign rfl rfl ?_
 refine At.ops0 ?_
 refine At.thenN ?_
 refine At.retc ?_
 refine At.doneR (ResV.tmp rfl ResV.nil) ?_
 exact ⟨congrArg Ending.returned (congrArg Value.bool (idxI_geq p l)), hB⟩
theorem named1_l (l : List UInt8) (b0 : Nat) (k m : Int) (w : World) (hb0 : w.heap[b0]? = some (.cells #[.int .i64 k] 3)) (hl : l.length ≤ 4194304) (hm : w.cell? ⟨0, 0, none⟩ = some (.int .i64 m)) :
  Calls Tryz.prog 55 ([.string (bs l), .pointer (some ⟨b0, 0, none⟩)] : List Value).toArray w fun e w' => e = .returned (.bool (noNm k (bs l))) ∧ Below w.heap.size w w' := by
 have hB := Below.refl w.heap.size w
 refine At.enter (N := 37) Tryz.func55 rfl rfl (by simp) [(0, .string (bs l)), (1, .pointer (some ⟨b0, 0, none⟩))] (by simp) ?_
 refine At.seq ?_
 refine At.region ?_
 refine At.assign rfl rfl ?_
 refine At.ops0 ?_
 refine At.thenN ?_
 refine At.seq ?_
 refine At.region ?_
 refine At.move rfl rfl ?_
 refine At.toBytes (l := l) rfl st9 el43 ik5 (by omega) rfl (fun b1 cap1 w1 hgbb1 hbl1 hby1 => ?_)
 replace hb0 := Below.old hbl1 hb0
 replace hB := Below.andThen hB hbl1
 refine At.call en15 rfl rfl (lex_any (.slice (some ⟨b1, 0, none⟩) l.length cap1) l m _ (BytesAt.keep hby1 (Below.refl _ _)) (cell_keep hm hB)) (fun e w2 hR => ?_)
 obtain ⟨vt1, rfl, hbl2, hO1, ghO1⟩ := hR
 refine ⟨_, rfl, ?_⟩
 replace ghO1 : ∀ g, Value.ownBlock vt1 = some g → w.heap.size ≤ g := fun g h => Nat.le_trans hB.size (ghO1 g h)
 replace hb0 := Below.old hbl2 hb0
 replace hby1 := hby1.below hbl2
 replace hB := Below.andThen hB hbl2
 refine At.move rfl rfl ?_
 refine At.extract rfl rfl rfl ?_
 refine At.extract rfl rfl rfl ?_
 refine At.extract rfl rfl rfl ?_
 refine At.assign rfl rfl ?_
 refine At.assign rfl rfl ?_
 refine At.assign rfl rfl ?_
 refine At.ops0 ?_
 refine At.thenN ?_
 refine At.seq ?_
 refine At.cases ((!decide ((lexE l) = 0))) (fun hg1 => ?_) (fun hg1 => ?_)
 ·skip
  have hg1' := hg1; simp only [Bool.not_eq_true', Bool.not_eq_false', decide_eq_true_eq, decide_eq_false_iff_not] at hg1'
  refine At.drawG (n := 24) mixed (by kernel_rfl) rfl (PanicOk.then PanicOk.body) ?_
  have hB := Below.drewB hB
  have hb0 : _ := (show w2.drew.heap[b0]? = _ from hb0)
  have hby1 := hby1.drew
  have hO1 := hO1.drew
  refine At.wpcS (i := 0) (d := 14) (.int .i64 (lexE l)) (by kernel_rfl) rfl rfl rfl (fun Lx => ?_) ?_
  ·skip
   refine At.move rfl rfl ?_
   refine At.ops0 ?_
   exact fun a ha => ⟨ha, rfl⟩
  refine At.wpcS (i := 1) (d := 15) (.bool (!decide ((lexE l) = 0))) (by kernel_rfl) rfl rfl rfl (fun Lx => ?_) ?_
  ·skip
   refine At.neI rfl rfl rfl ?_
   refine At.ops0 ?_
   exact fun a ha => ⟨ha, rfl⟩
  refine At.set (d := 15) (u := .bool true) rfl (congrArg Value.bool hg1) ?_
  refine At.wpcS (i := 2) (d := 16) (.bool true) (by kernel_rfl) rfl rfl rfl (fun Lx => ?_) ?_
  ·skip
   refine At.move rfl rfl ?_
   refine At.ops0 ?_
   exact fun a ha => ⟨ha, rfl⟩
  refine At.wpcS (i := 3) (d := 17) (undef) (by kernel_rfl) rfl rfl rfl (fun Lx => ?_) ?_
  ·skip
   refine At.no rfl rfl rfl rfl rfl rfl rfl ?_
   refine At.ops0 ?_
   exact fun a ha => ⟨ha, rfl⟩
  refine At.wpcS (i := 4) (d := 18) (undef) (by kernel_rfl) rfl rfl rfl (fun Lx => ?_) ?_
  ·skip
   refine At.no rfl rfl rfl rfl rfl rfl rfl ?_
   refine At.ops0 ?_
   exact fun a ha => ⟨ha, rfl⟩
  refine At.wpcS (i := 5) (d := 19) (undef) (by kernel_rfl) rfl rfl rfl (fun Lx => ?_) ?_
  ·skip
   refine At.no rfl rfl rfl rfl rfl rfl rfl ?_
   refine At.ops0 ?_
   exact fun a ha => ⟨ha, rfl⟩
  refine At.wpcS (i := 6) (d := 20) (.bool true) (by kernel_rfl) rfl rfl rfl (fun Lx => ?_) ?_
  ·skip
   refine At.pickT rfl rfl rfl ?_
   refine At.ops0 ?_
   exact fun a ha => ⟨ha, rfl⟩
  refine At.wpcS (i := 7) (d := 21) (.bool true) (by kernel_rfl) rfl rfl rfl (fun Lx => ?_) ?_
  ·skip
   refine At.move rfl rfl ?_
   refine At.ops0 ?_
   exact fun a ha => ⟨ha, rfl⟩
  refine At.wpcS (i := 8) (d := 22) (undef) (by kernel_rfl) rfl rfl rfl (fun Lx => ?_) ?_
  ·skip
   refine At.no rfl rfl rfl rfl rfl rfl rfl ?_
   refine At.ops0 ?_
   exact fun a ha => ⟨ha, rfl⟩
  refine At.wpcS (i := 9) (d := 23) (undef) (by kernel_rfl) rfl rfl rfl (fun Lx => ?_) ?_
  ·skip
   refine At.no rfl rfl rfl rfl rfl rfl rfl ?_
   refine At.ops0 ?_
   exact fun a ha => ⟨ha, rfl⟩
  refine At.wpcS (i := 10) (d := 24) (undef) (by kernel_rfl) rfl rfl rfl (fun Lx => ?_) ?_
  ·skip
   refine At.no rfl rfl rfl rfl rfl rfl rfl ?_
   refine At.ops0 ?_
   exact fun a ha => ⟨ha, rfl⟩
  refine At.wpcS (i := 11) (d := 25) (undef) (by kernel_rfl) rfl rfl rfl (fun Lx => ?_) ?_
  ·skip
   refine At.no rfl rfl rfl rfl rfl rfl rfl ?_
   refine At.ops0 ?_
   exact fun a ha => ⟨ha, rfl⟩
  refine At.wpcS (i := 12) (d := 26) (undef) (by kernel_rfl) rfl rfl rfl (fun Lx => ?_) ?_
  ·skip
   refine At.no rfl rfl rfl rfl rfl rfl rfl ?_
   refine At.ops0 ?_
   exact fun a ha => ⟨ha, rfl⟩
  refine At.wpcS (i := 13) (d := 27) (undef) (by kernel_rfl) rfl rfl rfl (fun Lx => ?_) ?_
  ·skip
   refine At.no rfl rfl rfl rfl rfl rfl rfl ?_
   refine At.ops0 ?_
   exact fun a ha => ⟨ha, rfl⟩
  refine At.wpcS (i := 14) (d := 28) (.bool true) (by kernel_rfl) rfl rfl rfl (fun Lx => ?_) ?_
  ·skip
   refine At.pickT rfl rfl rfl ?_
   refine At.ops0 ?_
   exact fun a ha => ⟨ha, rfl⟩
  refine At.wpcS (i := 15) (d := 29) (.bool true) (by kernel_rfl) rfl rfl rfl (fun Lx => ?_) ?_
  ·skip
   refine At.move rfl rfl ?_
   refine At.ops0 ?_
   exact fun a ha => ⟨ha, rfl⟩
  refine At.wpcS (i := 16) (d := 30) (undef) (by kernel_rfl) rfl rfl rfl (fun Lx => ?_) ?_
  ·skip
   refine At.no rfl rfl rfl rfl rfl rfl rfl ?_
   refine At.ops0 ?_
   exact fun a ha => ⟨ha, rfl⟩
  refine At.wpcS (i := 17) (d := 31) (undef) (by kernel_rfl) rfl rfl rfl (fun Lx => ?_) ?_
  ·skip
   refine At.no rfl rfl rfl rfl rfl rfl rfl ?_
   refine At.ops0 ?_
   exact fun a ha => ⟨ha, rfl⟩
  refine At.wpcS (i := 18) (d := 32) (undef) (by kernel_rfl) rfl rfl rfl (fun Lx => ?_) ?_
  ·skip
   refine At.no rfl rfl rfl rfl rfl rfl rfl ?_
   refine At.ops0 ?_
   exact fun a ha => ⟨ha, rfl⟩
  refine At.wpcS (i := 19) (d := 33) (undef) (by kernel_rfl) rfl rfl rfl (fun Lx => ?_) ?_
  ·skip
   refine At.no rfl rfl rfl rfl rfl rfl rfl ?_
   refine At.ops0 ?_
   exact fun a ha => ⟨ha, rfl⟩
  refine At.wpcS (i := 20) (d := 34) (undef) (by kernel_rfl) rfl rfl rfl (fun Lx => ?_) ?_
  ·skip
   refine At.no rfl rfl rfl rfl rfl rfl rfl ?_
   refine At.ops0 ?_
   exact fun a ha => ⟨ha, rfl⟩
  refine At.wpcS (i := 21) (d := 35) (undef) (by kernel_rfl) rfl rfl rfl (fun Lx => ?_) ?_
  ·skip
   refine At.no rfl rfl rfl rfl rfl rfl rfl ?_
   refine At.ops0 ?_
   exact fun a ha => ⟨ha, rfl⟩
  refine At.wpcS (i := 22) (d := 36) (.bool true) (by kernel_rfl) rfl rfl rfl (fun Lx => ?_) ?_
  ·skip
   refine At.pickT rfl rfl rfl ?_
   refine At.ops0 ?_
   exact fun a ha => ⟨ha, rfl⟩
  refine At.wpcE [23] (by kernel_rfl) (by kernel_rfl) (.cons [] rfl (by kernel_rfl) ?_ .nil)
  refine At.assign rfl rfl ?_
  refine At.ops0 ?_
  refine At.wpcN .nil ?_
  refine At.wpcZ ?_
  refine At.thenN ?_
  refine At.retc ?_
  refine At.doneR (ResV.tmp rfl ResV.nil) ?_
  exact ⟨congrArg Ending.returned (congrArg Value.bool (by first | (simp only [noNm, byt_bs, hg1, Bool.true_or, Bool.or_true, Bool.false_or, Bool.or_false, Bool.true_and, Bool.and_true, Bool.false_and, Bool.and_false, Bool.not_true, Bool.not_false, cond_true, cond_false]; done) | (simp [noNm, byt_bs, hg1]; done))), hB⟩
 ·skip
  have hg1' := hg1; simp only [Bool.not_eq_true', Bool.not_eq_false', decide_eq_true_eq, decide_eq_false_iff_not] at hg1'
  refine At.cases ((!decide (((lexT l).length : Int) = 1))) (fun hg2 => ?_) (fun hg2 => ?_)
  ·skip
   have hg2' := hg2; simp only [Bool.not_eq_true', Bool.not_eq_false', decide_eq_true_eq, decide_eq_false_iff_not] at hg2'
   refine At.drawG (n := 24) mixed (by kernel_rfl) rfl (PanicOk.then PanicOk.body) ?_
   have hB := Below.drewB hB
   have hb0 : _ := (show w2.drew.heap[b0]? = _ from hb0)
   have hby1 := hby1.drew
   have hO1 := hO1.drew
   refine At.wpcS (i := 0) (d := 14) (.int .i64 (lexE l)) (by kernel_rfl) rfl rfl rfl (fun Lx => ?_) ?_
   ·skip
    refine At.move rfl rfl ?_
    refine At.ops0 ?_
    exact fun a ha => ⟨ha, rfl⟩
   refine At.wpcS (i := 1) (d := 15) (.bool (!decide ((lexE l) = 0))) (by kernel_rfl) rfl rfl rfl (fun Lx => ?_) ?_
   ·skip
    refine At.neI rfl rfl rfl ?_
    refine At.ops0 ?_
    exact fun a ha => ⟨ha, rfl⟩
   refine At.set (d := 15) (u := .bool false) rfl (congrArg Value.bool hg1) ?_
   refine At.wpcS (i := 2) (d := 16) (.bool false) (by kernel_rfl) rfl rfl rfl (fun Lx => ?_) ?_
   ·skip
    refine At.move rfl rfl ?_
    refine At.ops0 ?_
    exact fun a ha => ⟨ha, rfl⟩
   refine At.wpcS (i := 3) (d := 17) (vt1) (by kernel_rfl) rfl rfl rfl (fun Lx => ?_) ?_
   ·skip
    refine At.yes rfl rfl rfl rfl ?_
    refine At.move rfl rfl ?_
    refine At.ops0 ?_
    exact fun a ha => ⟨ha, rfl⟩
   refine At.wpcS (i := 4) (d := 18) (.int .i64 ((lexT l).length : Int)) (by kernel_rfl) rfl rfl rfl (fun Lx => ?_) ?_
   ·skip
    refine At.yes rfl rfl rfl rfl ?_
    refine At.lenSl rfl (Own.slOk hO1) el50 rfl ?_
    refine At.ops0 ?_
    exact fun a ha => ⟨ha, rfl⟩
   refine At.wpcS (i := 5) (d := 19) (.bool (!decide (((lexT l).length : Int) = 1))) (by kernel_rfl) rfl rfl rfl (fun Lx => ?_) ?_
   ·skip
    refine At.yes rfl rfl rfl rfl ?_
    refine At.neI rfl rfl rfl ?_
    refine At.ops0 ?_
    exact fun a ha => ⟨ha, rfl⟩
   refine At.set (d := 19) (u := .bool true) rfl (congrArg Value.bool hg2) ?_
   refine At.wpcS (i := 6) (d := 20) (.bool true) (by kernel_rfl) rfl rfl rfl (fun Lx => ?_) ?_
   ·skip
    refine At.pickF rfl rfl rfl ?_
    refine At.ops0 ?_
    exact fun a ha => ⟨ha, rfl⟩
   refine At.wpcS (i := 7) (d := 21) (.bool true) (by kernel_rfl) rfl rfl rfl (fun Lx => ?_) ?_
   ·skip
    refine At.move rfl rfl ?_
    refine At.ops0 ?_
    exact fun a ha => ⟨ha, rfl⟩
   refine At.wpcS (i := 8) (d := 22) (undef) (by kernel_rfl) rfl rfl rfl (fun Lx => ?_) ?_
   ·skip
    refine At.no rfl rfl rfl rfl rfl rfl rfl ?_
    refine At.ops0 ?_
    exact fun a ha => ⟨ha, rfl⟩
   refine At.wpcS (i := 9) (d := 23) (undef) (by kernel_rfl) rfl rfl rfl (fun Lx => ?_) ?_
   ·skip
    refine At.no rfl rfl rfl rfl rfl rfl rfl ?_
    refine At.ops0 ?_
    exact fun a ha => ⟨ha, rfl⟩
   refine At.wpcS (i := 10) (d := 24) (undef) (by kernel_rfl) rfl rfl rfl (fun Lx => ?_) ?_
   ·skip
    refine At.no rfl rfl rfl rfl rfl rfl rfl ?_
    refine At.ops0 ?_
    exact fun a ha => ⟨ha, rfl⟩
   refine At.wpcS (i := 11) (d := 25) (undef) (by kernel_rfl) rfl rfl rfl (fun Lx => ?_) ?_
   ·skip
    refine At.no rfl rfl rfl rfl rfl rfl rfl ?_
    refine At.ops0 ?_
    exact fun a ha => ⟨ha, rfl⟩
   refine At.wpcS (i := 12) (d := 26) (undef) (by kernel_rfl) rfl rfl rfl (fun Lx => ?_) ?_
   ·skip
    refine At.no rfl rfl rfl rfl rfl rfl rfl ?_
    refine At.ops0 ?_
    exact fun a ha => ⟨ha, rfl⟩
   refine At.wpcS (i := 13) (d := 27) (undef) (by kernel_rfl) rfl rfl rfl (fun Lx => ?_) ?_
   ·skip
    refine At.no rfl rfl rfl rfl rfl rfl rfl ?_
    refine At.ops0 ?_
    exact fun a ha => ⟨ha, rfl⟩
   refine At.wpcS (i := 14) (d := 28) (.bool true) (by kernel_rfl) rfl rfl rfl (fun Lx => ?_) ?_
   ·skip
    refine At.pickT rfl rfl rfl ?_
    refine At.ops0 ?_
    exact fun a ha => ⟨ha, rfl⟩
   refine At.wpcS (i := 15) (d := 29) (.bool true) (by kernel_rfl) rfl rfl rfl (fun Lx => ?_) ?_
   ·skip
    refine At.move rfl rfl ?_
    refine At.ops0 ?_
    exact fun a ha => ⟨ha, rfl⟩
   refine At.wpcS (i := 16) (d := 30) (undef) (by kernel_rfl) rfl rfl rfl (fun Lx => ?_) ?_
   ·skip
    refine At.no rfl rfl rfl rfl rfl rfl rfl ?_
    refine At.ops0 ?_
    exact fun a ha => ⟨ha, rfl⟩
   refine At.wpcS (i := 17) (d := 31) (undef) (by kernel_rfl) rfl rfl rfl (fun Lx => ?_) ?_
   ·skip
    refine At.no rfl rfl rfl rfl rfl rfl rfl ?_
    refine At.ops0 ?_
    exact fun a ha => ⟨ha, rfl⟩
   refine At.wpcS (i := 18) (d := 32) (undef) (by kernel_rfl) rfl rfl rfl (fun Lx => ?_) ?_
   ·skip
    refine At.no rfl rfl rfl rfl rfl rfl rfl ?_
    refine At.ops0 ?_
    exact fun a ha => ⟨ha, rfl⟩
   refine At.wpcS (i := 19) (d := 33) (undef) (by kernel_rfl) rfl rfl rfl (fun Lx => ?_) ?_
   ·skip
    refine At.no rfl rfl rfl rfl rfl rfl rfl ?_
    refine At.ops0 ?_
    exact fun a ha => ⟨ha, rfl⟩
   refine At.wpcS (i := 20) (d := 34) (undef) (by kernel_rfl) rfl rfl rfl (fun Lx => ?_) ?_
   ·skip
    refine At.no rfl rfl rfl rfl rfl rfl rfl ?_
    refine At.ops0 ?_
    exact fun a ha => ⟨ha, rfl⟩
   refine At.wpcS (i := 21) (d := 35) (undef) (by kernel_rfl) rfl rfl rfl (fun Lx => ?_) ?_
   ·skip
    refine At.no rfl rfl rfl rfl rfl rfl rfl ?_
    refine At.ops0 ?_
    exact fun a ha => ⟨ha, rfl⟩
   refine At.wpcS (i := 22) (d := 36) (.bool true) (by kernel_rfl) rfl rfl rfl (fun Lx => ?_) ?_
   ·skip
    refine At.pickT rfl rfl rfl ?_
    refine At.ops0 ?_
    exact fun a ha => ⟨ha, rfl⟩
   refine At.wpcE [23] (by kernel_rfl) (by kernel_rfl) (.cons [] rfl (by kernel_rfl) ?_ .nil)
   refine At.assign rfl rfl ?_
   refine At.ops0 ?_
   refine At.wpcN .nil ?_
   refine At.wpcZ ?_
   refine At.thenN ?_
   refine At.retc ?_
   refine At.doneR (ResV.tmp rfl ResV.nil) ?_
   exact ⟨congrArg Ending.returned (congrArg Value.bool (by first | (simp only [noNm, byt_bs, hg1, hg2, Bool.true_or, Bool.or_true, Bool.false_or, Bool.or_false, Bool.true_and, Bool.and_true, Bool.false_and, Bool.and_false, Bool.not_true, Bool.not_false, cond_true, cond_false]; done) | (simp [noNm, byt_bs, hg1, hg2]; done))), hB⟩
  ·skip
   have hg2' := hg2; simp only [Bool.not_eq_true', Bool.not_eq_false', decide_eq_true_eq, decide_eq_false_iff_not] at hg2'
   obtain ⟨u1, hu1⟩ := some_of_lt (l := (lexT l)) (i := 0) (by first | omega | (simp at *; omega))
   refine At.cases ((!decide (u1.k = k))) (fun hg3 => ?_) (fun hg3 => ?_)
   ·skip
    have hg3' := hg3; simp only [Bool.not_eq_true', Bool.not_eq_false', decide_eq_true_eq, decide_eq_false_iff_not] at hg3'
    refine At.drawG (n := 24) mixed (by kernel_rfl) rfl (PanicOk.then PanicOk.body) ?_
    have hB := Below.drewB hB
    have hb0 : _ := (show w2.drew.heap[b0]? = _ from hb0)
    have hby1 := hby1.drew
    have hO1 := hO1.drew
    refine At.wpcS (i := 0) (d := 14) (.int .i64 (lexE l)) (by kernel_rfl) rfl rfl rfl (fun Lx => ?_) ?_
    ·skip
     refine At.move rfl rfl ?_
     refine At.ops0 ?_
     exact fun a ha => ⟨ha, rfl⟩
    refine At.wpcS (i := 1) (d := 15) (.bool (!decide ((lexE l) = 0))) (by kernel_rfl) rfl rfl rfl (fun Lx => ?_) ?_
    ·skip
     refine At.neI rfl rfl rfl ?_
     refine At.ops0 ?_
     exact fun a ha => ⟨ha, rfl⟩
    refine At.set (d := 15) (u := .bool false) rfl (congrArg Value.bool hg1) ?_
    refine At.wpcS (i := 2) (d := 16) (.bool false) (by kernel_rfl) rfl rfl rfl (fun Lx => ?_) ?_
    ·skip
     refine At.move rfl rfl ?_
     refine At.ops0 ?_
     exact fun a ha => ⟨ha, rfl⟩
    refine At.wpcS (i := 3) (d := 17) (vt1) (by kernel_rfl) rfl rfl rfl (fun Lx => ?_) ?_
    ·skip
     refine At.yes rfl rfl rfl rfl ?_
     refine At.move rfl rfl ?_
     refine At.ops0 ?_
     exact fun a ha => ⟨ha, rfl⟩
    refine At.wpcS (i := 4) (d := 18) (.int .i64 ((lexT l).length : Int)) (by kernel_rfl) rfl rfl rfl (fun Lx => ?_) ?_
    ·skip
     refine At.yes rfl rfl rfl rfl ?_
     refine At.lenSl rfl (Own.slOk hO1) el50 rfl ?_
     refine At.ops0 ?_
     exact fun a ha => ⟨ha, rfl⟩
    refine At.wpcS (i := 5) (d := 19) (.bool (!decide (((lexT l).length : Int) = 1))) (by kernel_rfl) rfl rfl rfl (fun Lx => ?_) ?_
    ·skip
     refine At.yes rfl rfl rfl rfl ?_
     refine At.neI rfl rfl rfl ?_
     refine At.ops0 ?_
     exact fun a ha => ⟨ha, rfl⟩
    refine At.set (d := 19) (u := .bool false) rfl (congrArg Value.bool hg2) ?_
    refine At.wpcS (i := 6) (d := 20) (.bool false) (by kernel_rfl) rfl rfl rfl (fun Lx => ?_) ?_
    ·skip
     refine At.pickF rfl rfl rfl ?_
     refine At.ops0 ?_
     exact fun a ha => ⟨ha, rfl⟩
    refine At.wpcS (i := 7) (d := 21) (.bool false) (by kernel_rfl) rfl rfl rfl (fun Lx => ?_) ?_
    ·skip
     refine At.move rfl rfl ?_
     refine At.ops0 ?_
     exact fun a ha => ⟨ha, rfl⟩
    refine At.wpcS (i := 8) (d := 22) (vt1) (by kernel_rfl) rfl rfl rfl (fun Lx => ?_) ?_
    ·skip
     refine At.yes rfl rfl rfl rfl ?_
     refine At.move rfl rfl ?_
     refine At.ops0 ?_
     exact fun a ha => ⟨ha, rfl⟩
    refine At.wpcS (i := 9) (d := 23) (.pointer (some ⟨vBlock vt1, vOff vt1 + 0 * 4, none⟩)) (by kernel_rfl) rfl rfl rfl (fun Lx => ?_) ?_
    ·skip
     refine At.yes rfl rfl rfl rfl ?_
     refine At.indexAddr (i := 0) rfl rfl (Own.slOk hO1) (lt_of_some hu1) el50 sz101 rfl ?_
     refine At.ops0 ?_
     exact fun a ha => ⟨ha, rfl⟩
    refine At.wpcS (i := 10) (d := 24) (.pointer (some ⟨vBlock vt1, vOff vt1 + 0 * 4 + 0, none⟩)) (by kernel_rfl) rfl rfl rfl (fun Lx => ?_) ?_
    ·skip
     refine At.yes rfl rfl rfl rfl ?_
     refine At.fieldAddr rfl fo101_0 rfl ?_
     refine At.ops0 ?_
     exact fun a ha => ⟨ha, rfl⟩
    refine At.wpcS (i := 11) (d := 25) (.int .i64 u1.k) (by kernel_rfl) rfl rfl rfl (fun Lx => ?_) ?_
    ·skip
     refine At.yes rfl rfl rfl rfl ?_
     refine At.load rfl (Ld.cell ag3 (cell_keep ((((OwnR.rows hO1 (fun u hu => (((fun u _ => tk_ok u)) u hu).size))).row hu1).get ((((fun u _ => tk_ok u)) u1 (List.mem_of_getElem? hu1))).c0) (Below.refl _ _))) rfl ?_
     refine At.ops0 ?_
     exact fun a ha => ⟨ha, rfl⟩
    refine At.wpcS (i := 12) (d := 26) (.int .i64 k) (by kernel_rfl) rfl rfl rfl (fun Lx => ?_) ?_
    ·skip
     refine At.yes rfl rfl rfl rfl ?_
     refine At.load rfl (Ld.ownCell ag3 hb0 rfl) rfl ?_
     refine At.ops0 ?_
     exact fun a ha => ⟨ha, rfl⟩
    refine At.wpcS (i := 13) (d := 27) (.bool (!decide (u1.k = k))) (by kernel_rfl) rfl rfl rfl (fun Lx => ?_) ?_
    ·skip
     refine At.yes rfl rfl rfl rfl ?_
     refine At.neI rfl rfl rfl ?_
     refine At.ops0 ?_
     exact fun a ha => ⟨ha, rfl⟩
    refine At.set (d := 27) (u := .bool true) rfl (congrArg Value.bool hg3) ?_
    refine At.wpcS (i := 14) (d := 28) (.bool true) (by kernel_rfl) rfl rfl rfl (fun Lx => ?_) ?_
    ·skip
     refine At.pickF rfl rfl rfl ?_
     refine At.ops0 ?_
     exact fun a ha => ⟨ha, rfl⟩
    refine At.wpcS (i := 15) (d := 29) (.bool true) (by kernel_rfl) rfl rfl rfl (fun Lx => ?_) ?_
    ·skip
     refine At.move rfl rfl ?_
     refine At.ops0 ?_
     exact fun a ha => ⟨ha, rfl⟩
    refine At.wpcS (i := 16) (d := 30) (undef) (by kernel_rfl) rfl rfl rfl (fun Lx => ?_) ?_
    ·skip
     refine At.no rfl rfl rfl rfl rfl rfl rfl ?_
     refine At.ops0 ?_
     exact fun a ha => ⟨ha, rfl⟩
    refine At.wpcS (i := 17) (d := 31) (undef) (by kernel_rfl) rfl rfl rfl (fun Lx => ?_) ?_
    ·skip
     refine At.no rfl rfl rfl rfl rfl rfl rfl ?_
     refine At.ops0 ?_
     exact fun a ha => ⟨ha, rfl⟩
    refine At.wpcS (i := 18) (d := 32) (undef) (by kernel_rfl) rfl rfl rfl (fun Lx => ?_) ?_
    ·skip
     refine At.no rfl rfl rfl rfl rfl rfl rfl ?_
     refine At.ops0 ?_
     exact fun a ha => ⟨ha, rfl⟩
    refine At.wpcS (i := 19) (d := 33) (undef) (by kernel_rfl) rfl rfl rfl (fun Lx => ?_) ?_
    ·skip
     refine At.no rfl rfl rfl rfl rfl rfl rfl ?_
     refine At.ops0 ?_
     exact fun a ha => ⟨ha, rfl⟩
    refine At.wpcS (i := 20) (d := 34) (undef) (by kernel_rfl) rfl rfl rfl (fun Lx => ?_) ?_
    ·skip
     refine At.no rfl rfl rfl rfl rfl rfl rfl ?_
     refine At.ops0 ?_
     exact fun a ha => ⟨ha, rfl⟩
    refine At.wpcS (i := 21) (d := 35) (undef) (by kernel_rfl) rfl rfl rfl (fun Lx => ?_) ?_
    ·skip
     refine At.no rfl rfl rfl rfl rfl rfl rfl ?_
     refine At.ops0 ?_
     exact fun a ha => ⟨ha, rfl⟩
    refine At.wpcS (i := 22) (d := 36) (.bool true) (by kernel_rfl) rfl rfl rfl (fun Lx => ?_) ?_
    ·skip
     refine At.pickT rfl rfl rfl ?_
     refine At.ops0 ?_
     exact fun a ha => ⟨ha, rfl⟩
    refine At.wpcE [23] (by kernel_rfl) (by kernel_rfl) (.cons [] rfl (by kernel_rfl) ?_ .nil)
    refine At.assign rfl rfl ?_
    refine At.ops0 ?_
    refine At.wpcN .nil ?_
    refine At.wpcZ ?_
    refine At.thenN ?_
    refine At.retc ?_
    refine At.doneR (ResV.tmp rfl ResV.nil) ?_
    exact ⟨congrArg Ending.returned (congrArg Value.bool (by first | (simp only [noNm, byt_bs, one_is (s := bs l) (by rw [byt_bs]; exact hu1), hg1, hg2, hg3, Bool.true_or, Bool.or_true, Bool.false_or, Bool.or_false, Bool.true_and, Bool.and_true, Bool.false_and, Bool.and_false, Bool.not_true, Bool.not_false, cond_true, cond_false]; done) | (simp [noNm, byt_bs, one_is (s := bs l) (by rw [byt_bs]; exact hu1), hg1, hg2, hg3]; done))), hB⟩
   ·skip
    have hg3' := hg3; simp only [Bool.not_eq_true', Bool.not_eq_false', decide_eq_true_eq, decide_eq_false_iff_not] at hg3'
    refine At.drawG (n := 24) mixed (by kernel_rfl) rfl (PanicOk.then PanicOk.body) ?_
    have hB := Below.drewB hB
    have hb0 : _ := (show w2.drew.heap[b0]? = _ from hb0)
    have hby1 := hby1.drew
    have hO1 := hO1.drew
    refine At.wpcS (i := 0) (d := 14) (.int .i64 (lexE l)) (by kernel_rfl) rfl rfl rfl (fun Lx => ?_) ?_
    ·skip
     refine At.move rfl rfl ?_
     refine At.ops0 ?_
     exact fun a ha => ⟨ha, rfl⟩
    refine At.wpcS (i := 1) (d := 15) (.bool (!decide ((lexE l) = 0))) (by kernel_rfl) rfl rfl rfl (fun Lx => ?_) ?_
    ·skip
     refine At.neI rfl rfl rfl ?_
     refine At.ops0 ?_
     exact fun a ha => ⟨ha, rfl⟩
    refine At.set (d := 15) (u := .bool false) rfl (congrArg Value.bool hg1) ?_
    refine At.wpcS (i := 2) (d := 16) (.bool false) (by kernel_rfl) rfl rfl rfl (fun Lx => ?_) ?_
    ·skip
     refine At.move rfl rfl ?_
     refine At.ops0 ?_
     exact fun a ha => ⟨ha, rfl⟩
    refine At.wpcS (i := 3) (d := 17) (vt1) (by kernel_rfl) rfl rfl rfl (fun Lx => ?_) ?_
    ·skip
     refine At.yes rfl rfl rfl rfl ?_
     refine At.move rfl rfl ?_
     refine At.ops0 ?_
     exact fun a ha => ⟨ha, rfl⟩
    refine At.wpcS (i := 4) (d := 18) (.int .i64 ((lexT l).length : Int)) (by kernel_rfl) rfl rfl rfl (fun Lx => ?_) ?_
    ·skip
     refine At.yes rfl rfl rfl rfl ?_
     refine At.lenSl rfl (Own.slOk hO1) el50 rfl ?_
     refine At.ops0 ?_
     exact fun a ha => ⟨ha, rfl⟩
    refine At.wpcS (i := 5) (d := 19) (.bool (!decide (((lexT l).length : Int) = 1))) (by kernel_rfl) rfl rfl rfl (fun Lx => ?_) ?_
    ·skip
     refine At.yes rfl rfl rfl rfl ?_
     refine At.neI rfl rfl rfl ?_
     refine At.ops0 ?_
     exact fun a ha => ⟨ha, rfl⟩
    refine At.set (d := 19) (u := .bool false) rfl (congrArg Value.bool hg2) ?_
    refine At.wpcS (i := 6) (d := 20) (.bool false) (by kernel_rfl) rfl rfl rfl (fun Lx => ?_) ?_
    ·skip
     refine At.pickF rfl rfl rfl ?_
     refine At.ops0 ?_
     exact fun a ha => ⟨ha, rfl⟩
    refine At.wpcS (i := 7) (d := 21) (.bool false) (by kernel_rfl) rfl rfl rfl (fun Lx => ?_) ?_
    ·skip
     refine At.move rfl rfl ?_
     refine At.ops0 ?_
     exact fun a ha => ⟨ha, rfl⟩
    refine At.wpcS (i := 8) (d := 22) (vt1) (by kernel_rfl) rfl rfl rfl (fun Lx => ?_) ?_
    ·skip
     refine At.yes rfl rfl rfl rfl ?_
     refine At.move rfl rfl ?_
     refine At.ops0 ?_
     exact fun a ha => ⟨ha, rfl⟩
    refine At.wpcS (i := 9) (d := 23) (.pointer (some ⟨vBlock vt1, vOff vt1 + 0 * 4, none⟩)) (by kernel_rfl) rfl rfl rfl (fun Lx => ?_) ?_
    ·skip
     refine At.yes rfl rfl rfl rfl ?_
     refine At.indexAddr (i := 0) rfl rfl (Own.slOk hO1) (lt_of_some hu1) el50 sz101 rfl ?_
     refine At.ops0 ?_
     exact fun a ha => ⟨ha, rfl⟩
    refine At.wpcS (i := 10) (d := 24) (.pointer (some ⟨vBlock vt1, vOff vt1 + 0 * 4 + 0, none⟩)) (by kernel_rfl) rfl rfl rfl (fun Lx => ?_) ?_
    ·skip
     refine At.yes rfl rfl rfl rfl ?_
     refine At.fieldAddr rfl fo101_0 rfl ?_
     refine At.ops0 ?_
     exact fun a ha => ⟨ha, rfl⟩
    refine At.wpcS (i := 11) (d := 25) (.int .i64 u1.k) (by kernel_rfl) rfl rfl rfl (fun Lx => ?_) ?_
    ·skip
     refine At.yes rfl rfl rfl rfl ?_
     refine At.load rfl (Ld.cell ag3 (cell_keep ((((OwnR.rows hO1 (fun u hu => (((fun u _ => tk_ok u)) u hu).size))).row hu1).get ((((fun u _ => tk_ok u)) u1 (List.mem_of_getElem? hu1))).c0) (Below.refl _ _))) rfl ?_
     refine At.ops0 ?_
     exact fun a ha => ⟨ha, rfl⟩
    refine At.wpcS (i := 12) (d := 26) (.int .i64 k) (by kernel_rfl) rfl rfl rfl (fun Lx => ?_) ?_
    ·skip
     refine At.yes rfl rfl rfl rfl ?_
     refine At.load rfl (Ld.ownCell ag3 hb0 rfl) rfl ?_
     refine At.ops0 ?_
     exact fun a ha => ⟨ha, rfl⟩
    refine At.wpcS (i := 13) (d := 27) (.bool (!decide (u1.k = k))) (by kernel_rfl) rfl rfl rfl (fun Lx => ?_) ?_
    ·skip
     refine At.yes rfl rfl rfl rfl ?_
     refine At.neI rfl rfl rfl ?_
     refine At.ops0 ?_
     exact fun a ha => ⟨ha, rfl⟩
    refine At.set (d := 27) (u := .bool false) rfl (congrArg Value.bool hg3) ?_
    refine At.wpcS (i := 14) (d := 28) (.bool false) (by kernel_rfl) rfl rfl rfl (fun Lx => ?_) ?_
    ·skip
     refine At.pickF rfl rfl rfl ?_
     refine At.ops0 ?_
     exact fun a ha => ⟨ha, rfl⟩
    refine At.wpcS (i := 15) (d := 29) (.bool false) (by kernel_rfl) rfl rfl rfl (fun Lx => ?_) ?_
    ·skip
     refine At.move rfl rfl ?_
     refine At.ops0 ?_
     exact fun a ha => ⟨ha, rfl⟩
    refine At.wpcS (i := 16) (d := 30) (vt1) (by kernel_rfl) rfl rfl rfl (fun Lx => ?_) ?_
    ·skip
     refine At.yes rfl rfl rfl rfl ?_
     refine At.move rfl rfl ?_
     refine At.ops0 ?_
     exact fun a ha => ⟨ha, rfl⟩
    refine At.wpcS (i := 17) (d := 31) (.pointer (some ⟨vBlock vt1, vOff vt1 + 0 * 4, none⟩)) (by kernel_rfl) rfl rfl rfl (fun Lx => ?_) ?_
    ·skip
     refine At.yes rfl rfl rfl rfl ?_
     refine At.indexAddr (i := 0) rfl rfl (Own.slOk hO1) (lt_of_some hu1) el50 sz101 rfl ?_
     refine At.ops0 ?_
     exact fun a ha => ⟨ha, rfl⟩
    refine At.wpcS (i := 18) (d := 32) (.pointer (some ⟨vBlock vt1, vOff vt1 + 0 * 4 + 1, none⟩)) (by kernel_rfl) rfl rfl rfl (fun Lx => ?_) ?_
    ·skip
     refine At.yes rfl rfl rfl rfl ?_
     refine At.fieldAddr rfl fo101_1 rfl ?_
     refine At.ops0 ?_
     exact fun a ha => ⟨ha, rfl⟩
    refine At.wpcS (i := 19) (d := 33) (.string (bs u1.t)) (by kernel_rfl) rfl rfl rfl (fun Lx => ?_) ?_
    ·skip
     refine At.yes rfl rfl rfl rfl ?_
     refine At.load rfl (Ld.cell ag9 (cell_keep ((((OwnR.rows hO1 (fun u hu => (((fun u _ => tk_ok u)) u hu).size))).row hu1).get ((((fun u _ => tk_ok u)) u1 (List.mem_of_getElem? hu1))).c1) (Below.refl _ _))) rfl ?_
     refine At.ops0 ?_
     exact fun a ha => ⟨ha, rfl⟩
    refine At.wpcS (i := 20) (d := 34) (.string (bs l)) (by kernel_rfl) rfl rfl rfl (fun Lx => ?_) ?_
    ·skip
     refine At.yes rfl rfl rfl rfl ?_
     refine At.move rfl rfl ?_
     refine At.ops0 ?_
     exact fun a ha => ⟨ha, rfl⟩
    refine At.wpcS (i := 21) (d := 35) (.bool (!decide (u1.t = l))) (by kernel_rfl) rfl rfl rfl (fun Lx => ?_) ?_
    ·skip
     refine At.yes rfl rfl rfl rfl ?_
     refine At.neB' (a := u1.t) (b := l) rfl rfl rfl ?_
     refine At.ops0 ?_
     exact fun a ha => ⟨ha, rfl⟩
    refine At.wpcS (i := 22) (d := 36) (.bool (!decide (u1.t = l))) (by kernel_rfl) rfl rfl rfl (fun Lx => ?_) ?_
    ·skip
     refine At.pickF rfl rfl rfl ?_
     refine At.ops0 ?_
     exact fun a ha => ⟨ha, rfl⟩
    refine At.wpcE [23] (by kernel_rfl) (by kernel_rfl) (.cons [] rfl (by kernel_rfl) ?_ .nil)
    refine At.assign rfl rfl ?_
    refine At.ops0 ?_
    refine At.wpcN .nil ?_
    refine At.wpcZ ?_
    refine At.thenN ?_
    refine At.retc ?_
    refine At.doneR (ResV.tmp rfl ResV.nil) ?_
    exact ⟨congrArg Ending.returned (congrArg Value.bool (by first | (simp only [noNm, byt_bs, one_is (s := bs l) (by rw [byt_bs]; exact hu1), hg1, hg2, hg3, Bool.true_or, Bool.or_true, Bool.false_or, Bool.or_false, Bool.true_and, Bool.and_true, Bool.false_and, Bool.and_false, Bool.not_true, Bool.not_false, cond_true, cond_false]; done) | (simp [noNm, byt_bs, one_is (s := bs l) (by rw [byt_bs]; exact hu1), hg1, hg2, hg3]; done))), hB⟩
theorem named1_any (s : ByteArray) (b0 : Nat) (k m : Int) (w : World) (hb0 : w.heap[b0]? = some (.cells #[.int .i64 k] 3)) (hl : s.size ≤ 4194304) (hm : w.cell? ⟨0, 0, none⟩ = some (.int .i64 m)) :
  Calls Tryz.prog 55 ([.string s] ++ [.pointer (some ⟨b0, 0, none⟩)] : List Value).toArray w fun e w' => e = .returned (.bool (noNm k s)) ∧ Below w.heap.size w w' := by
 have h := named1_l (byt s) b0 k m w hb0 (by rw [show (byt s).length = s.size by cases s; simp [byt, ByteArray.size]]; exact hl) hm
 rw [bs_byt] at h; exact h
theorem named_any (k : Int) (v : Value) (ls : List ByteArray) (m : Int) (w : World) (hv : StrsAt w v ls) (hl : ls.length ≤ 9223372036854775807) (hsz : ∀ s ∈ ls, s.size ≤ 4194304) (hm : w.cell? ⟨0, 0, none⟩ = some (.int .i64 m)) :
  Calls Tryz.prog 27 ([.int .i64 k, v] : List Value).toArray w fun e w' => e = .returned (.bool (nmsB k ls)) ∧ Below w.heap.size w w' := by
 have hB := Below.refl w.heap.size w
 refine At.enter (N := 9) Tryz.func27 rfl rfl (by simp) [(0, .int .i64 k), (1, v)] (by simp) ?_
 refine At.seq ?_
 refine At.region ?_
 refine At.box rfl rfl (fun b1 w1 F1 => ?_)
 have gb1 := F1.ge hB
 have hb1 : w1.heap[b1]? = some (.cells #[.int .i64 k] 3) := F1.new
 replace hB := F1.below' hB
 refine At.assign rfl rfl ?_
 refine At.ops0 ?_
 refine At.thenN ?_
 refine At.seq ?_
 refine At.region ?_
 refine At.move rfl rfl ?_
 refine At.makeFunc rfl rfl ?_
 refine At.call en54 rfl rfl (containsF_str v ls 55 [.pointer (some ⟨b1, 0, none⟩)] (noNm k) _ ((hv).keep hB) en55 hl (fun u w1 hw hu => named1_any u b1 k m w1 (Below.old hw hb1) (hsz u hu) (cell_keep (cell_keep hm hB) hw))) (fun e w2 hR => ?_)
 obtain ⟨rfl, hbl1⟩ := hR
 refine ⟨_, rfl, ?_⟩
 replace hb1 := Below.old hbl1 hb1
 replace hB := Below.andThen hB hbl1
 refine At.not rfl rfl ?_
 refine At.assign rfl rfl ?_
 refine At.ops0 ?_
 refine At.thenN ?_
 refine At.retc ?_
 refine At.doneR (ResV.tmp rfl ResV.nil) ?_
 exact ⟨rfl, hB⟩
theorem bare_any (t : Ty) (w : World) (ht : TyOk t) :
  Calls Tryz.prog 58 ([.agg t.cs] : List Value).toArray w fun e w' => e = .returned (.bool (bareB t)) ∧ Below w.heap.size w w' := by
 have hB := Below.refl w.heap.size w
 refine At.enter (N := 25) Tryz.func58 rfl rfl (by simp) [(0, .agg t.cs)] (by simp) ?_
 refine At.seq ?_
 refine At.region ?_
 refine At.box rfl rfl (fun b1 w1 F1 => ?_)
 have gb1 := F1.ge hB
 have hb1 : w1.heap[b1]? = some (.cells t.cs 31) := F1.new
 replace hB := F1.below' hB
 refine At.assign rfl rfl ?_
 refine At.ops0 ?_
 refine At.thenN ?_
 refine At.seq ?_
 refine At.region ?_
 refine At.fieldAddr rfl fo31_2 rfl ?_
 refine At.load rfl (Ld.ownCell ag3 hb1 (ht).c2) rfl ?_
 refine At.eqI rfl rfl rfl ?_
 refine At.move rfl rfl ?_
 refine At.cases (decide (t.var = 0)) (fun hg1 => ?_) (fun hg1 => ?_)
 ·skip
  refine At.set (d := 6) (u := .bool true) rfl (congrArg Value.bool hg1) ?_
  have hg1' := of_decide_eq_true hg1
  refine At.yes rfl rfl rfl rfl ?_
  refine At.fieldAddr rfl fo31_3 rfl ?_
  refine At.yes rfl rfl rfl rfl ?_
  refine At.load rfl (Ld.ownCell ag26 hb1 (ht).c3) rfl ?_
  refine At.yes rfl rfl rfl rfl ?_
  refine At.lenSl rfl (ht).argsOk el26 rfl ?_
  refine At.yes rfl rfl rfl rfl ?_
  refine At.eqI rfl rfl rfl ?_
  refine At.pickT rfl rfl rfl ?_
  refine At.move rfl rfl ?_
  refine At.cases (decide ((t.args : Int) = 0)) (fun hg2 => ?_) (fun hg2 => ?_)
  ·skip
   refine At.set (d := 12) (u := .bool true) rfl (congrArg Value.bool hg2) ?_
   have hg2' := of_decide_eq_true hg2
   refine At.yes rfl rfl rfl rfl ?_
   refine At.fieldAddr rfl fo31_4 rfl ?_
   refine At.yes rfl rfl rfl rfl ?_
   refine At.fieldAddr rfl fo29_0 rfl ?_
   refine At.yes rfl rfl rfl rfl ?_
   refine At.load rfl (Ld.ownCell ag27 hb1 (ht).c4) rfl ?_
   refine At.yes rfl rfl rfl rfl ?_
   refine At.lenSl rfl (ht).labelsOk el27 rfl ?_
   refine At.yes rfl rfl rfl rfl ?_
   refine At.eqI rfl rfl rfl ?_
   refine At.pickT rfl rfl rfl ?_
   refine At.move rfl rfl ?_
   refine At.cases (decide ((t.labels : Int) = 0)) (fun hg3 => ?_) (fun hg3 => ?_)
   ·skip
    refine At.set (d := 19) (u := .bool true) rfl (congrArg Value.bool hg3) ?_
    have hg3' := of_decide_eq_true hg3
    refine At.yes rfl rfl rfl rfl ?_
    refine At.fieldAddr rfl fo31_4 rfl ?_
    refine At.yes rfl rfl rfl rfl ?_
    refine At.fieldAddr rfl fo29_1 rfl ?_
    refine At.yes rfl rfl rfl rfl ?_
    refine At.load rfl (Ld.ownCell ag3 hb1 (ht).c5) rfl ?_
    refine At.yes rfl rfl rfl rfl ?_
    refine At.eqI rfl rfl rfl ?_
    refine At.pickT rfl rfl rfl ?_
    refine At.assign rfl rfl ?_
    refine At.ops0 ?_
    refine At.thenN ?_
    refine At.retc ?_
    refine At.doneR (ResV.tmp rfl ResV.nil) ?_
    exact ⟨congrArg Ending.returned (congrArg Value.bool (by first | (simp only [bareB, hg1, hg2, hg3, Bool.true_or, Bool.or_true, Bool.false_or, Bool.or_false, Bool.true_and, Bool.and_true, Bool.false_and, Bool.and_false, Bool.not_true, Bool.not_false, cond_true, cond_false]; done) | (simp [bareB, hg1, hg2, hg3]; done))), hB⟩
   ·skip
    refine At.set (d := 19) (u := .bool false) rfl (congrArg Value.bool hg3) ?_
    have hg3' := of_decide_eq_false hg3
    refine At.no rfl rfl rfl rfl rfl rfl rfl ?_
    refine At.no rfl rfl rfl rfl rfl rfl rfl ?_
    refine At.no rfl rfl rfl rfl rfl rfl rfl ?_
    refine At.no rfl rfl rfl rfl rfl rfl rfl ?_
    refine At.pickF rfl rfl rfl ?_
    refine At.assign rfl rfl ?_
    refine At.ops0 ?_
    refine At.thenN ?_
    refine At.retc ?_
    refine At.doneR (ResV.tmp rfl ResV.nil) ?_
    exact ⟨congrArg Ending.returned (congrArg Value.bool (by first | (simp only [bareB, hg1, hg2, hg3, Bool.true_or, Bool.or_true, Bool.false_or, Bool.or_false, Bool.true_and, Bool.and_true, Bool.false_and, Bool.and_false, Bool.not_true, Bool.not_false, cond_true, cond_false]; done) | (simp [bareB, hg1, hg2, hg3]; done))), hB⟩
  ·skip
   refine At.set (d := 12) (u := .bool false) rfl (congrArg Value.bool hg2) ?_
   have hg2' := of_decide_eq_false hg2
   refine At.no rfl rfl rfl rfl rfl rfl rfl ?_
   refine At.no rfl rfl rfl rfl rfl rfl rfl ?_
   refine At.no rfl rfl rfl rfl rfl rfl rfl ?_
   refine At.no rfl rfl rfl rfl rfl rfl rfl ?_
   refine At.no rfl rfl rfl rfl rfl rfl rfl ?_
   refine At.pickF rfl rfl rfl ?_
   refine At.move rfl rfl ?_
   refine At.no rfl rfl rfl rfl rfl rfl rfl ?_
   refine At.no rfl rfl rfl rfl rfl rfl rfl ?_
   refine At.no rfl rfl rfl rfl rfl rfl rfl ?_
   refine At.no rfl rfl rfl rfl rfl rfl rfl ?_
   refine At.pickF rfl rfl rfl ?_
   refine At.assign rfl rfl ?_
   refine At.ops0 ?_
   refine At.thenN ?_
   refine At.retc ?_
   refine At.doneR (ResV.tmp rfl ResV.nil) ?_
   exact ⟨congrArg Ending.returned (congrArg Value.bool (by first | (simp only [bareB, hg1, hg2, Bool.true_or, Bool.or_true, Bool.false_or, Bool.or_false, Bool.true_and, Bool.and_true, Bool.false_and, Bool.and_false, Bool.not_true, Bool.not_false, cond_true, cond_false]; done) | (simp [bareB, hg1, hg2]; done))), hB⟩
 ·skip
  refine At.set (d := 6) (u := .bool false) rfl (congrArg Value.bool hg1) ?_
  have hg1' := of_decide_eq_false hg1
  refine At.no rfl rfl rfl rfl rfl rfl rfl ?_
  refine At.no rfl rfl rfl rfl rfl rfl rfl ?_
  refine At.no rfl rfl rfl rfl rfl rfl rfl ?_
  refine At.no rfl rfl rfl rfl rfl rfl rfl ?_
  refine At.pickF rfl rfl rfl ?_
  refine At.move rfl rfl ?_
  refine At.no rfl rfl rfl rfl rfl rfl rfl ?_
  refine At.no rfl rfl rfl rfl rfl rfl rfl ?_
  refine At.no rfl rfl rfl rfl rfl rfl rfl ?_
  refine At.no rfl rfl rfl rfl rfl rfl rfl ?_
  refine At.no rfl rfl rfl rfl rfl rfl rfl ?_
  refine At.pickF rfl rfl rfl ?_
  refine At.move rfl rfl ?_
  refine At.no rfl rfl rfl rfl rfl rfl rfl ?_
  refine At.no rfl rfl rfl rfl rfl rfl rfl ?_
  refine At.no rfl rfl rfl rfl rfl rfl rfl ?_
  refine At.no rfl rfl rfl rfl rfl rfl rfl ?_
  refine At.pickF rfl rfl rfl ?_
  refine At.assign rfl rfl ?_
  refine At.ops0 ?_
  refine At.thenN ?_
  refine At.retc ?_
  refine At.doneR (ResV.tmp rfl ResV.nil) ?_
  exact ⟨congrArg Ending.returned (congrArg Value.bool (by first | (simp only [bareB, hg1, Bool.true_or, Bool.or_true, Bool.false_or, Bool.or_false, Bool.true_and, Bool.and_true, Bool.false_and, Bool.and_false, Bool.not_true, Bool.not_false, cond_true, cond_false]; done) | (simp [bareB, hg1]; done))), hB⟩
theorem typed1_any (t : Ty) (m : Int) (w : World) (ht : TyOk t) (hz : t.nm.size ≤ 4194304) (hm : w.cell? ⟨0, 0, none⟩ = some (.int .i64 m)) :
  Calls Tryz.prog 57 ([.agg t.cs] : List Value).toArray w fun e w' => e = .returned (.bool (noTy t)) ∧ Below w.heap.size w w' := by
 have hB := Below.refl w.heap.size w
 refine At.enter (N := 34) Tryz.func57 rfl rfl (by simp) [(0, .agg t.cs)] (by simp) ?_
 refine At.seq ?_
 refine At.region ?_
 refine At.box rfl rfl (fun b1 w1 F1 => ?_)
 have gb1 := F1.ge hB
 have hb1 : w1.heap[b1]? = some (.cells t.cs 31) := F1.new
 replace hB := F1.below' hB
 refine At.assign rfl rfl ?_
 refine At.ops0 ?_
 refine At.thenN ?_
 refine At.seq ?_
 refine At.seq ?_
 refine At.region ?_
 refine At.fieldAddr rfl fo31_0 rfl ?_
 refine At.load rfl (Ld.ownCell ag3 hb1 (ht).c0) rfl ?_
 refine At.eqI rfl rfl rfl ?_
 refine At.ops0 ?_
 refine At.thenN ?_
 refine At.cond (b := decide (t.k = 4)) rfl (fun hc1 => ?_) (fun hc1 => ?_)
 ·skip
  have hc1' := of_decide_eq_true hc1
  refine At.seq ?_
  refine At.region ?_
  refine At.load rfl (Ld.own ag31 (sz31.trans (congrArg some (ht).size.symm)) hb1) rfl ?_
  refine At.call en58 rfl rfl (bare_any t _ ht) (fun e w2 hR => ?_)
  obtain ⟨rfl, hbl1⟩ := hR
  refine ⟨_, rfl, ?_⟩
  replace hb1 := Below.old hbl1 hb1
  replace hB := Below.andThen hB hbl1
  refine At.not rfl rfl ?_
  refine At.move rfl rfl ?_
  refine At.cases ((!(bareB t))) (fun hg1 => ?_) (fun hg1 => ?_)
  ·skip
   refine At.set (d := 9) (u := .bool true) rfl (congrArg Value.bool hg1) ?_
   refine At.no rfl rfl rfl rfl rfl rfl rfl ?_
   refine At.no rfl rfl rfl rfl rfl rfl rfl ?_
   refine At.no rfl rfl rfl rfl rfl rfl rfl ?_
   refine At.no rfl rfl rfl rfl rfl rfl rfl ?_
   refine At.no rfl rfl rfl rfl rfl rfl rfl ?_
   refine At.pickT rfl rfl rfl ?_
   refine At.assign rfl rfl ?_
   refine At.ops0 ?_
   refine At.thenN ?_
   refine At.retc ?_
   refine At.thenR ?_
   refine At.doneR (ResV.tmp rfl ResV.nil) ?_
   exact ⟨congrArg Ending.returned (congrArg Value.bool (by first | (simp only [noTy, ← nms_one, hc1, hg1, Bool.true_or, Bool.or_true, Bool.false_or, Bool.or_false, Bool.true_and, Bool.and_true, Bool.false_and, Bool.and_false, Bool.not_true, Bool.not_false, cond_true, cond_false]; done) | (simp [noTy, ← nms_one, hc1, hg1]; done))), hB⟩
  ·skip
   refine At.set (d := 9) (u := .bool false) rfl (congrArg Value.bool hg1) ?_
   refine At.yes rfl rfl rfl rfl ?_
   refine At.fieldAddr rfl fo31_1 rfl ?_
   refine At.yes rfl rfl rfl rfl ?_
   refine At.load rfl (Ld.ownCell ag9 hb1 (ht).c1) rfl ?_
   refine At.yes rfl rfl rfl rfl ?_
   refine At.buildSlice (xs := [.tmp 11]) rfl rfl el27 sz9 ze9 (by intro v hv; simp only [List.mem_cons, List.not_mem_nil, or_false] at hv; rcases hv with rfl <;> first | rfl | simp [Value.cells, Value.cells]) rfl (by decide) rfl (fun b2 w3 F2 => ?_)
   have n_b1_b2 : b1 ≠ b2 := Nat.ne_of_lt (F2.lt hb1)
   have gb2 := F2.ge hB
   replace hb1 := F2.old hb1
   have hb2 : w3.heap[b2]? = some (.cells #[.string t.nm] 9) := F2.new
   replace hB := F2.below' hB
   refine At.yes rfl rfl rfl rfl ?_
   refine At.call en27 rfl rfl (named_any 3 (.slice (some ⟨b2, 0, none⟩) 1 1) ([t.nm]) m _ (StrsAt.own (ss := [t.nm]) hb2 rfl (by decide) : StrsAt _ (.slice (some ⟨b2, 0, none⟩) 1 1) [t.nm]) (by simp) ((fun s hs => by rw [List.mem_singleton] at hs; subst hs; first | assumption | omega)) (cell_keep hm hB)) (fun e w4 hR => ?_)
   obtain ⟨rfl, hbl2⟩ := hR
   refine ⟨_, rfl, ?_⟩
   replace hb1 := Below.old hbl2 hb1
   replace hb2 := Below.old hbl2 hb2
   replace hB := Below.andThen hB hbl2
   refine At.yes rfl rfl rfl rfl ?_
   refine At.not rfl rfl ?_
   refine At.pickF rfl rfl rfl ?_
   refine At.assign rfl rfl ?_
   refine At.ops0 ?_
   refine At.thenN ?_
   refine At.retc ?_
   refine At.thenR ?_
   refine At.doneR (ResV.tmp rfl ResV.nil) ?_
   exact ⟨congrArg Ending.returned (congrArg Value.bool (by first | (simp only [noTy, ← nms_one, hc1, hg1, Bool.true_or, Bool.or_true, Bool.false_or, Bool.or_false, Bool.true_and, Bool.and_true, Bool.false_and, Bool.and_false, Bool.not_true, Bool.not_false, cond_true, cond_false]; done) | (simp [noTy, ← nms_one, hc1, hg1]; done))), hB⟩
 ·skip
  have hc1' := of_decide_eq_false hc1
  refine At.skip ?_
  refine At.thenN ?_
  refine At.seq ?_
  refine At.region ?_
  refine At.load rfl (Ld.own ag31 (sz31.trans (congrArg some (ht).size.symm)) hb1) rfl ?_
  refine At.call en58 rfl rfl (bare_any t _ ht) (fun e w5 hR => ?_)
  obtain ⟨rfl, hbl3⟩ := hR
  refine ⟨_, rfl, ?_⟩
  replace hb1 := Below.old hbl3 hb1
  replace hB := Below.andThen hB hbl3
  refine At.not rfl rfl ?_
  refine At.move rfl rfl ?_
  refine At.cases ((!(bareB t))) (fun hg2 => ?_) (fun hg2 => ?_)
  ·skip
   refine At.set (d := 19) (u := .bool true) rfl (congrArg Value.bool hg2) ?_
   refine At.no rfl rfl rfl rfl rfl rfl rfl ?_
   refine At.no rfl rfl rfl rfl rfl rfl rfl ?_
   refine At.no rfl rfl rfl rfl rfl rfl rfl ?_
   refine At.pickT rfl rfl rfl ?_
   refine At.move rfl rfl ?_
   refine At.no rfl rfl rfl rfl rfl rfl rfl ?_
   refine At.no rfl rfl rfl rfl rfl rfl rfl ?_
   refine At.no rfl rfl rfl rfl rfl rfl rfl ?_
   refine At.pickT rfl rfl rfl ?_
   refine At.move rfl rfl ?_
   refine At.no rfl rfl rfl rfl rfl rfl rfl ?_
   refine At.no rfl rfl rfl rfl rfl rfl rfl ?_
   refine At.no rfl rfl rfl rfl rfl rfl rfl ?_
   refine At.pickT rfl rfl rfl ?_
   refine At.assign rfl rfl ?_
   refine At.ops0 ?_
   refine At.thenN ?_
   refine At.retc ?_
   refine At.doneR (ResV.tmp rfl ResV.nil) ?_
   exact ⟨congrArg Ending.returned (congrArg Value.bool (by first | (simp only [noTy, ← nms_one, hc1, hg2, Bool.true_or, Bool.or_true, Bool.false_or, Bool.or_false, Bool.true_and, Bool.and_true, Bool.false_and, Bool.and_false, Bool.not_true, Bool.not_false, cond_true, cond_false]; done) | (simp [noTy, ← nms_one, hc1, hg2]; done))), hB⟩
  ·skip
   refine At.set (d := 19) (u := .bool false) rfl (congrArg Value.bool hg2) ?_
   refine At.yes rfl rfl rfl rfl ?_
   refine At.fieldAddr rfl fo31_1 rfl ?_
   refine At.yes rfl rfl rfl rfl ?_
   refine At.load rfl (Ld.ownCell ag9 hb1 (ht).c1) rfl ?_
   refine At.yes rfl rfl rfl rfl ?_
   refine At.neS rfl rfl rfl ?_
   refine At.pickF rfl rfl rfl ?_
   refine At.move rfl rfl ?_
   refine At.cases ((!decide (t.nm = (⟨#[]⟩ : ByteArray)))) (fun hg3 => ?_) (fun hg3 => ?_)
   ·skip
    refine At.set (d := 24) (u := .bool true) rfl (congrArg Value.bool hg3) ?_
    have hg3' := hg3; simp only [Bool.not_eq_true', Bool.not_eq_false', decide_eq_true_eq, decide_eq_false_iff_not] at hg3'
    refine At.no rfl rfl rfl rfl rfl rfl rfl ?_
    refine At.no rfl rfl rfl rfl rfl rfl rfl ?_
    refine At.no rfl rfl rfl rfl rfl rfl rfl ?_
    refine At.pickT rfl rfl rfl ?_
    refine At.move rfl rfl ?_
    refine At.no rfl rfl rfl rfl rfl rfl rfl ?_
    refine At.no rfl rfl rfl rfl rfl rfl rfl ?_
    refine At.no rfl rfl rfl rfl rfl rfl rfl ?_
    refine At.pickT rfl rfl rfl ?_
    refine At.assign rfl rfl ?_
    refine At.ops0 ?_
    refine At.thenN ?_
    refine At.retc ?_
    refine At.doneR (ResV.tmp rfl ResV.nil) ?_
    exact ⟨congrArg Ending.returned (congrArg Value.bool (by first | (simp only [noTy, ← nms_one, hc1, hg2, hg3, Bool.true_or, Bool.or_true, Bool.false_or, Bool.or_false, Bool.true_and, Bool.and_true, Bool.false_and, Bool.and_false, Bool.not_true, Bool.not_false, cond_true, cond_false]; done) | (simp [noTy, ← nms_one, hc1, hg2, hg3]; done))), hB⟩
   ·skip
    refine At.set (d := 24) (u := .bool false) rfl (congrArg Value.bool hg3) ?_
    have hg3' := hg3; simp only [Bool.not_eq_true', Bool.not_eq_false', decide_eq_true_eq, decide_eq_false_iff_not] at hg3'
    refine At.yes rfl rfl rfl rfl ?_
    refine At.fieldAddr rfl fo31_0 rfl ?_
    refine At.yes rfl rfl rfl rfl ?_
    refine At.load rfl (Ld.ownCell ag3 hb1 (ht).c0) rfl ?_
    refine At.yes rfl rfl rfl rfl ?_
    refine At.lss rfl rfl rfl ?_
    refine At.pickF rfl rfl rfl ?_
    refine At.move rfl rfl ?_
    refine At.cases (decide (t.k < 1)) (fun hg4 => ?_) (fun hg4 => ?_)
    ·skip
     refine At.set (d := 29) (u := .bool true) rfl (congrArg Value.bool hg4) ?_
     have hg4' := of_decide_eq_true hg4
     refine At.no rfl rfl rfl rfl rfl rfl rfl ?_
     refine At.no rfl rfl rfl rfl rfl rfl rfl ?_
     refine At.no rfl rfl rfl rfl rfl rfl rfl ?_
     refine At.pickT rfl rfl rfl ?_
     refine At.assign rfl rfl ?_
     refine At.ops0 ?_
     refine At.thenN ?_
     refine At.retc ?_
     refine At.doneR (ResV.tmp rfl ResV.nil) ?_
     exact ⟨congrArg Ending.returned (congrArg Value.bool (by first | (simp only [noTy, ← nms_one, hc1, hg2, hg3, hg4, Bool.true_or, Bool.or_true, Bool.false_or, Bool.or_false, Bool.true_and, Bool.and_true, Bool.false_and, Bool.and_false, Bool.not_true, Bool.not_false, cond_true, cond_false]; done) | (simp [noTy, ← nms_one, hc1, hg2, hg3, hg4]; done))), hB⟩
    ·skip
     refine At.set (d := 29) (u := .bool false) rfl (congrArg Value.bool hg4) ?_
     have hg4' := of_decide_eq_false hg4
     refine At.yes rfl rfl rfl rfl ?_
     refine At.fieldAddr rfl fo31_0 rfl ?_
     refine At.yes rfl rfl rfl rfl ?_
     refine At.load rfl (Ld.ownCell ag3 hb1 (ht).c0) rfl ?_
     refine At.yes rfl rfl rfl rfl ?_
     refine At.gtr rfl rfl rfl ?_
     refine At.pickF rfl rfl rfl ?_
     refine At.assign rfl rfl ?_
     refine At.ops0 ?_
     refine At.thenN ?_
     refine At.retc ?_
     refine At.doneR (ResV.tmp rfl ResV.nil) ?_
     exact ⟨congrArg Ending.returned (congrArg Value.bool (by first | (simp only [noTy, ← nms_one, hc1, hg2, hg3, hg4, Bool.true_or, Bool.or_true, Bool.false_or, Bool.or_false, Bool.true_and, Bool.and_true, Bool.false_and, Bool.and_false, Bool.not_true, Bool.not_false, cond_true, cond_false]; done) | (simp [noTy, ← nms_one, hc1, hg2, hg3, hg4]; done))), hB⟩
theorem typed_any (v : Value) (l : List Ty) (m : Int) (w : World) (hv : RowsAt w v 6 (l.map Ty.cs)) (hE : ∀ u ∈ l, TyOk u) (hl : l.length ≤ 9223372036854775807) (hz : ∀ u ∈ l, u.nm.size ≤ 4194304) (hm : w.cell? ⟨0, 0, none⟩ = some (.int .i64 m)) :
  Calls Tryz.prog 28 ([v] : List Value).toArray w fun e w' => e = .returned (.bool (tysB l)) ∧ Below w.heap.size w w' := by
 have hB := Below.refl w.heap.size w
 refine At.enter (N := 6) Tryz.func28 rfl rfl (by simp) [(0, v)] (by simp) ?_
 refine At.seq ?_
 refine At.region ?_
 refine At.assign rfl rfl ?_
 refine At.ops0 ?_
 refine At.thenN ?_
 refine At.seq ?_
 refine At.region ?_
 refine At.move rfl rfl ?_
 refine At.call en56 rfl rfl (containsF_Ty v l 57 [] noTy _ (hv.keep hB) hE en57 hl (fun u w1 hw hu => typed1_any u m w1 (hE u hu) (hz u hu) (cell_keep (cell_keep hm hB) hw))) (fun e w1 hR => ?_)
 obtain ⟨rfl, hbl1⟩ := hR
 refine ⟨_, rfl, ?_⟩
 replace hB := Below.andThen hB hbl1
 refine At.not rfl rfl ?_
 refine At.assign rfl rfl ?_
 refine At.ops0 ?_
 refine At.thenN ?_
 refine At.retc ?_
 refine At.doneR (ResV.tmp rfl ResV.nil) ?_
 exact ⟨rfl, hB⟩
theorem kids_any (s : ByteArray) (w : World)  :
  Calls Tryz.prog 113 ([.string s] : List Value).toArray w fun e w' => e = .returned (.int .i64 (kidsOf s)) ∧ Below w.heap.size w w' := by
 have hB := Below.refl w.heap.size w
 refine At.enter (N := 14) Tryz.func113 rfl rfl (by simp) [(0, .string s)] (by simp) ?_
 refine At.seq ?_
 refine At.region ?_
 refine At.assign rfl rfl ?_
 refine At.ops0 ?_
 refine At.thenN ?_
 refine At.seq ?_
 refine At.block ?_
 refine At.seq ?_
 refine At.region ?_
 refine At.buildSlice (xs := [.const (.string (⟨#[43]⟩ : ByteArray)), .const (.string (⟨#[45]⟩ : ByteArray)), .const (.string (⟨#[42]⟩ : ByteArray)), .const (.string (⟨#[47]⟩ : ByteArray)), .const (.string (⟨#[60]⟩ : ByteArray)), .const (.string (⟨#[61]⟩ : ByteArray)), .const (.string (⟨#[58, 61]⟩ : ByteArray))]) rfl rfl el27 sz9 ze9 (by intro v hv; simp only [List.mem_cons, List.not_mem_nil, or_false] at hv; rcases hv with rfl | rfl | rfl | rfl | rfl | rfl | rfl <;> first | rfl | simp [Value.cells, Value.cells]) rfl (by decide) rfl (fun b1 w1 F1 => ?_)
 have gb1 := F1.ge hB
 have hb1 : w1.heap[b1]? = some (.cells #[.string (⟨#[43]⟩ : ByteArray), .string (⟨#[45]⟩ : ByteArray), .string (⟨#[42]⟩ : ByteArray), .string (⟨#[47]⟩ : ByteArray), .string (⟨#[60]⟩ : ByteArray), .string (⟨#[61]⟩ : ByteArray), .string (⟨#[58, 61]⟩ : ByteArray)] 9) := F1.new
 replace hB := F1.below' hB
 refine At.move rfl rfl ?_
 refine At.call en90 rfl rfl (contains_any (.slice (some ⟨b1, 0, none⟩) 7 7) ([(⟨#[43]⟩ : ByteArray), (⟨#[45]⟩ : ByteArray), (⟨#[42]⟩ : ByteArray), (⟨#[47]⟩ : ByteArray), (⟨#[60]⟩ : ByteArray), (⟨#[61]⟩ : ByteArray), (⟨#[58, 61]⟩ : ByteArray)]) s _ (StrsAt.own (ss := [(⟨#[43]⟩ : ByteArray), (⟨#[45]⟩ : ByteArray), (⟨#[42]⟩ : ByteArray), (⟨#[47]⟩ : ByteArray), (⟨#[60]⟩ : ByteArray), (⟨#[61]⟩ : ByteArray), (⟨#[58, 61]⟩ : ByteArray)]) hb1 rfl (by decide) : StrsAt _ (.slice (some ⟨b1, 0, none⟩) 7 7) [(⟨#[43]⟩ : ByteArray), (⟨#[45]⟩ : ByteArray), (⟨#[42]⟩ : ByteArray), (⟨#[47]⟩ : ByteArray), (⟨#[60]⟩ : ByteArray), (⟨#[61]⟩ : ByteArray), (⟨#[58, 61]⟩ : ByteArray)]) (by decide)) (fun e w' hR => ?_)
 obtain ⟨rfl, rfl⟩ := hR
 refine ⟨_, rfl, ?_⟩
 refine At.assign rfl rfl ?_
 refine At.ops0 ?_
 refine At.thenN ?_
 refine At.cond (b := (memB s ([(⟨#[43]⟩ : ByteArray), (⟨#[45]⟩ : ByteArray), (⟨#[42]⟩ : ByteArray), (⟨#[47]⟩ : ByteArray), (⟨#[60]⟩ : ByteArray), (⟨#[61]⟩ : ByteArray), (⟨#[58, 61]⟩ : ByteArray)]))) rfl (fun hc1 => ?_) (fun hc1 => ?_)
 ·skip
  refine At.seq ?_
  refine At.region ?_
  refine At.assign rfl rfl ?_
  refine At.ops0 ?_
  refine At.thenN ?_
  refine At.retc ?_
  refine At.inR ?_
  refine At.thenR ?_
  refine At.doneR (ResV.tmp rfl ResV.nil) ?_
  exact ⟨congrArg Ending.returned (congrArg (Value.int .i64) (by simp only [kidsOf, hc1, cond_true, cond_false])), hB⟩
 ·skip
  refine At.seq ?_
  refine At.region ?_
  refine At.buildSlice (xs := [.const (.string (⟨#[112, 114, 105, 110, 116]⟩ : ByteArray)), .const (.string (⟨#[114, 101, 102]⟩ : ByteArray)), .const (.string (⟨#[33]⟩ : ByteArray))]) rfl rfl el27 sz9 ze9 (by intro v hv; simp only [List.mem_cons, List.not_mem_nil, or_false] at hv; rcases hv with rfl | rfl | rfl <;> first | rfl | simp [Value.cells, Value.cells]) rfl (by decide) rfl (fun b2 w2 F2 => ?_)
  have n_b1_b2 : b1 ≠ b2 := Nat.ne_of_lt (F2.lt hb1)
  have gb2 := F2.ge hB
  replace hb1 := F2.old hb1
  have hb2 : w2.heap[b2]? = some (.cells #[.string (⟨#[112, 114, 105, 110, 116]⟩ : ByteArray), .string (⟨#[114, 101, 102]⟩ : ByteArray), .string (⟨#[33]⟩ : ByteArray)] 9) := F2.new
  replace hB := F2.below' hB
  refine At.move rfl rfl ?_
  refine At.call en90 rfl rfl (contains_any (.slice (some ⟨b2, 0, none⟩) 3 3) ([(⟨#[112, 114, 105, 110, 116]⟩ : ByteArray), (⟨#[114, 101, 102]⟩ : ByteArray), (⟨#[33]⟩ : ByteArray)]) s _ (StrsAt.own (ss := [(⟨#[112, 114, 105, 110, 116]⟩ : ByteArray), (⟨#[114, 101, 102]⟩ : ByteArray), (⟨#[33]⟩ : ByteArray)]) hb2 rfl (by decide) : StrsAt _ (.slice (some ⟨b2, 0, none⟩) 3 3) [(⟨#[112, 114, 105, 110, 116]⟩ : ByteArray), (⟨#[114, 101, 102]⟩ : ByteArray), (⟨#[33]⟩ : ByteArray)]) (by decide)) (fun e w' hR => ?_)
  obtain ⟨rfl, rfl⟩ := hR
  refine ⟨_, rfl, ?_⟩
  refine At.assign rfl rfl ?_
  refine At.ops0 ?_
  refine At.thenN ?_
  refine At.cond (b := (memB s ([(⟨#[112, 114, 105, 110, 116]⟩ : ByteArray), (⟨#[114, 101, 102]⟩ : ByteArray), (⟨#[33]⟩ : ByteArray)]))) rfl (fun hc2 => ?_) (fun hc2 => ?_)
  ·skip
   refine At.seq ?_
   refine At.region ?_
   refine At.assign rfl rfl ?_
   refine At.ops0 ?_
   refine At.thenN ?_
   refine At.retc ?_
   refine At.inR ?_
   refine At.thenR ?_
   refine At.doneR (ResV.tmp rfl ResV.nil) ?_
   exact ⟨congrArg Ending.returned (congrArg (Value.int .i64) (by simp only [kidsOf, hc1, hc2, cond_true, cond_false])), hB⟩
  ·skip
   refine At.seq ?_
   refine At.region ?_
   refine At.move rfl rfl ?_
   refine At.eqS rfl rfl rfl ?_
   refine At.assign rfl rfl ?_
   refine At.ops0 ?_
   refine At.thenN ?_
   refine At.cond (b := decide (s = (⟨#[114, 101, 97, 100]⟩ : ByteArray))) rfl (fun hc3 => ?_) (fun hc3 => ?_)
   ·skip
    have hc3' := of_decide_eq_true hc3
    refine At.seq ?_
    refine At.region ?_
    refine At.assign rfl rfl ?_
    refine At.ops0 ?_
    refine At.thenN ?_
    refine At.retc ?_
    refine At.inR ?_
    refine At.thenR ?_
    refine At.doneR (ResV.tmp rfl ResV.nil) ?_
    exact ⟨congrArg Ending.returned (congrArg (Value.int .i64) (by simp only [kidsOf, hc1, hc2, hc3, cond_true, cond_false])), hB⟩
   ·skip
    have hc3' := of_decide_eq_false hc3
    refine At.skip ?_
    refine At.inN ?_
    refine At.thenN ?_
    refine At.seq ?_
    refine At.region ?_
    refine At.assign rfl rfl ?_
    refine At.ops0 ?_
    refine At.thenN ?_
    refine At.retc ?_
    refine At.doneR (ResV.tmp rfl ResV.nil) ?_
    exact ⟨congrArg Ending.returned (congrArg (Value.int .i64) (by simp only [kidsOf, hc1, hc2, hc3, cond_true, cond_false])), hB⟩
theorem has_any (t : Tm) (kids name : Int) (param arms : Bool) (m : Int) (w : World) (ht : TmOk w t) (hz1 : t.nm.size ≤ 4194304) (hz2 : t.pm.size ≤ 4194304) (hm : w.cell? ⟨0, 0, none⟩ = some (.int .i64 m)) :
  Calls Tryz.prog 112 ([.agg t.cs, .int .i64 kids, .int .i64 name, .bool param, .bool arms] : List Value).toArray w fun e w' => e = .returned (.bool (hasB t.k t.nm t.pm t.n t.kids.length t.arms.length kids name param arms)) ∧ Below w.heap.size w w' := by
 have hB := Below.refl w.heap.size w
 refine At.enter (N := 78) Tryz.func112 rfl rfl (by simp) [(0, .agg t.cs), (1, .int .i64 kids), (2, .int .i64 name), (3, .bool param), (4, .bool arms)] (by simp) ?_
 refine At.seq ?_
 refine At.region ?_
 refine At.box rfl rfl (fun b1 w1 F1 => ?_)
 have gb1 := F1.ge hB
 have hb1 : w1.heap[b1]? = some (.cells t.cs 33) := F1.new
 replace hB := F1.below' hB
 refine At.assign rfl rfl ?_
 refine At.ops0 ?_
 refine At.thenN ?_
 refine At.seq ?_
 refine At.block ?_
 refine At.seq ?_
 refine At.joinG (ι := Unit) (fun _ => [(2, .int .i64 name), (3, .bool param), (5, .pointer (some ⟨b1, 0, none⟩)), (11, .bool ((!decide ((t.kids.length : Int) = kids)) || (decide (0 < (t.arms.length : Int)) && (!arms))))]) (fun _ w2 => (Below w.heap.size w w2) ∧ (w2.heap[b1]? = some (.cells t.cs 33))) ?_ (fun gh w2 hS => ?_)
 ·skip
  refine At.region ?_
  refine At.fieldAddr rfl fo33_5 rfl ?_
  refine At.load rfl (Ld.ownCell ag24 hb1 (ht).c5) rfl ?_
  refine At.lenSl rfl ((ht).kidsAt).okL el24 rfl ?_
  refine At.move rfl rfl ?_
  refine At.neI rfl rfl rfl ?_
  refine At.move rfl rfl ?_
  refine At.cases ((!decide ((t.kids.length : Int) = kids))) (fun hg1 => ?_) (fun hg1 => ?_)
  ·skip
   refine At.set (d := 17) (u := .bool true) rfl (congrArg Value.bool hg1) ?_
   have hg1' := hg1; simp only [Bool.not_eq_true', Bool.not_eq_false', decide_eq_true_eq, decide_eq_false_iff_not] at hg1'
   refine At.no rfl rfl rfl rfl rfl rfl rfl ?_
   refine At.no rfl rfl rfl rfl rfl rfl rfl ?_
   refine At.no rfl rfl rfl rfl rfl rfl rfl ?_
   refine At.no rfl rfl rfl rfl rfl rfl rfl ?_
   refine At.no rfl rfl rfl rfl rfl rfl rfl ?_
   refine At.noU rfl rfl rfl rfl rfl rfl ?_
   refine At.noU rfl rfl rfl rfl rfl rfl ?_
   refine At.no rfl rfl rfl rfl rfl rfl rfl ?_
   refine At.pickT rfl rfl rfl ?_
   refine At.assign rfl rfl ?_
   refine At.ops0 ?_
   exact At.joinedG () (Sub.cons rfl (Sub.cons rfl (Sub.cons rfl (Sub.cons (by show some (Value.bool true) = some (Value.bool ((!decide ((t.kids.length : Int) = kids)) || (decide (0 < (t.arms.length : Int)) && (!arms)))); first | (rw [hg1]; rfl) | (simp [hg1]; done) | (simp_all; done)) Sub.nil)))) ⟨hB, hb1⟩
  ·skip
   refine At.set (d := 17) (u := .bool false) rfl (congrArg Value.bool hg1) ?_
   have hg1' := hg1; simp only [Bool.not_eq_true', Bool.not_eq_false', decide_eq_true_eq, decide_eq_false_iff_not] at hg1'
   refine At.yes rfl rfl rfl rfl ?_
   refine At.fieldAddr rfl fo33_6 rfl ?_
   refine At.yes rfl rfl rfl rfl ?_
   refine At.load rfl (Ld.ownCell ag25 hb1 (ht).c6) rfl ?_
   refine At.yes rfl rfl rfl rfl ?_
   refine At.lenSl rfl ((ht).armsAt).okL el25 rfl ?_
   refine At.yes rfl rfl rfl rfl ?_
   refine At.gtr rfl rfl rfl ?_
   refine At.yes rfl rfl rfl rfl ?_
   refine At.move rfl rfl ?_
   refine At.cases (decide (0 < (t.arms.length : Int))) (fun hg2 => ?_) (fun hg2 => ?_)
   ·skip
    refine At.set (d := 22) (u := .bool true) rfl (congrArg Value.bool hg2) ?_
    have hg2' := of_decide_eq_true hg2
    refine At.yes rfl rfl rfl rfl ?_
    refine At.move rfl rfl ?_
    refine At.yes rfl rfl rfl rfl ?_
    refine At.not rfl rfl ?_
    refine At.yes rfl rfl rfl rfl ?_
    refine At.pickT rfl rfl rfl ?_
    refine At.pickF rfl rfl rfl ?_
    refine At.assign rfl rfl ?_
    refine At.ops0 ?_
    exact At.joinedG () (Sub.cons rfl (Sub.cons rfl (Sub.cons rfl (Sub.cons (by show some (Value.bool (!arms)) = some (Value.bool ((!decide ((t.kids.length : Int) = kids)) || (decide (0 < (t.arms.length : Int)) && (!arms)))); first | (rw [hg1, hg2]; rfl) | (simp [hg1, hg2]; done) | (simp_all; done)) Sub.nil)))) ⟨hB, hb1⟩
   ·skip
    refine At.set (d := 22) (u := .bool false) rfl (congrArg Value.bool hg2) ?_
    have hg2' := of_decide_eq_false hg2
    refine At.no rfl rfl rfl rfl rfl rfl rfl ?_
    refine At.no rfl rfl rfl rfl rfl rfl rfl ?_
    refine At.yes rfl rfl rfl rfl ?_
    refine At.pickF rfl rfl rfl ?_
    refine At.pickF rfl rfl rfl ?_
    refine At.assign rfl rfl ?_
    refine At.ops0 ?_
    exact At.joinedG () (Sub.cons rfl (Sub.cons rfl (Sub.cons rfl (Sub.cons (by show some (Value.bool false) = some (Value.bool ((!decide ((t.kids.length : Int) = kids)) || (decide (0 < (t.arms.length : Int)) && (!arms)))); first | (rw [hg1, hg2]; rfl) | (simp [hg1, hg2]; done) | (simp_all; done)) Sub.nil)))) ⟨hB, hb1⟩
 ·skip
  clear hB hb1
  obtain ⟨hB, hb1⟩ := hS
  show At _ _ [(2, .int .i64 name), (3, .bool param), (5, .pointer (some ⟨b1, 0, none⟩)), (11, .bool ((!decide ((t.kids.length : Int) = kids)) || (decide (0 < (t.arms.length : Int)) && (!arms))))] _ _
  refine At.thenN ?_
  refine At.cond (b := ((!decide ((t.kids.length : Int) = kids)) || (decide (0 < (t.arms.length : Int)) && (!arms)))) rfl (fun hc1 => ?_) (fun hc1 => ?_)
  ·skip
   refine At.seq ?_
   refine At.region ?_
   refine At.assign rfl rfl ?_
   refine At.ops0 ?_
   refine At.thenN ?_
   refine At.retc ?_
   refine At.inR ?_
   refine At.thenR ?_
   refine At.doneR (ResV.tmp rfl ResV.nil) ?_
   exact ⟨congrArg Ending.returned (congrArg Value.bool (by first | (simp only [hasB, ← nms_one, hc1, Bool.true_or, Bool.or_true, Bool.false_or, Bool.or_false, Bool.true_and, Bool.and_true, Bool.false_and, Bool.and_false, Bool.not_true, Bool.not_false, cond_true, cond_false]; done) | (simp [hasB, ← nms_one, hc1]; done) | (cases param <;> simp_all [hasB, ← nms_one]; done) | (cases arms <;> cases param <;> simp_all [hasB, ← nms_one]; done))), hB⟩
  ·skip
   refine At.seq ?_
   refine At.joinG (ι := Unit) (fun _ => [(3, .bool param), (5, .pointer (some ⟨b1, 0, none⟩)), (27, .bool ((decide (name = 0) && (!decide (t.nm = (⟨#[]⟩ : ByteArray)))) || ((!decide (name = 0)) && (!(nmsB name ([t.nm]))))))]) (fun _ w5 => (Below w.heap.size w w5) ∧ (w5.heap[b1]? = some (.cells t.cs 33))) ?_ (fun gh w5 hS => ?_)
   ·skip
    refine At.region ?_
    refine At.move rfl rfl ?_
    refine At.eqI rfl rfl rfl ?_
    refine At.move rfl rfl ?_
    refine At.cases (decide (name = 0)) (fun hg3 => ?_) (fun hg3 => ?_)
    ·skip
     refine At.set (d := 30) (u := .bool true) rfl (congrArg Value.bool hg3) ?_
     have hg3' := of_decide_eq_true hg3
     refine At.yes rfl rfl rfl rfl ?_
     refine At.fieldAddr rfl fo33_2 rfl ?_
     refine At.yes rfl rfl rfl rfl ?_
     refine At.load rfl (Ld.ownCell ag9 hb1 (ht).c2) rfl ?_
     refine At.yes rfl rfl rfl rfl ?_
     refine At.neS rfl rfl rfl ?_
     refine At.pickT rfl rfl rfl ?_
     refine At.move rfl rfl ?_
     refine At.cases ((!decide (t.nm = (⟨#[]⟩ : ByteArray)))) (fun hg4 => ?_) (fun hg4 => ?_)
     ·skip
      refine At.set (d := 35) (u := .bool true) rfl (congrArg Value.bool hg4) ?_
      have hg4' := hg4; simp only [Bool.not_eq_true', Bool.not_eq_false', decide_eq_true_eq, decide_eq_false_iff_not] at hg4'
      refine At.no rfl rfl rfl rfl rfl rfl rfl ?_
      refine At.no rfl rfl rfl rfl rfl rfl rfl ?_
      refine At.no rfl rfl rfl rfl rfl rfl rfl ?_
      refine At.noU rfl rfl rfl rfl rfl rfl ?_
      refine At.noU rfl rfl rfl rfl rfl rfl ?_
      refine At.noU rfl rfl rfl rfl rfl rfl ?_
      refine At.noU rfl rfl rfl rfl rfl rfl ?_
      refine At.noU rfl rfl rfl rfl rfl rfl ?_
      refine At.noU rfl rfl rfl rfl rfl rfl ?_
      refine At.no rfl rfl rfl rfl rfl rfl rfl ?_
      refine At.pickT rfl rfl rfl ?_
      refine At.assign rfl rfl ?_
      refine At.ops0 ?_
      exact At.joinedG () (Sub.cons rfl (Sub.cons rfl (Sub.cons (by show some (Value.bool true) = some (Value.bool ((decide (name = 0) && (!decide (t.nm = (⟨#[]⟩ : ByteArray)))) || ((!decide (name = 0)) && (!(nmsB name ([t.nm])))))); first | (rw [hg3, hg4]; rfl) | (simp [hg3, hg4]; done) | (simp_all; done)) Sub.nil))) ⟨hB, hb1⟩
     ·skip
      refine At.set (d := 35) (u := .bool false) rfl (congrArg Value.bool hg4) ?_
      have hg4' := hg4; simp only [Bool.not_eq_true', Bool.not_eq_false', decide_eq_true_eq, decide_eq_false_iff_not] at hg4'
      refine At.yes rfl rfl rfl rfl ?_
      refine At.move rfl rfl ?_
      refine At.yes rfl rfl rfl rfl ?_
      refine At.neI rfl rfl rfl ?_
      refine At.yes rfl rfl rfl rfl ?_
      refine At.move rfl rfl ?_
      refine At.cases ((!decide (name = 0))) (fun hg5 => ?_) (fun hg5 => ?_)
      ·skip
       refine At.set (d := 38) (u := .bool true) rfl (congrArg Value.bool hg5) ?_
       have hg5' := hg5; simp only [Bool.not_eq_true', Bool.not_eq_false', decide_eq_true_eq, decide_eq_false_iff_not] at hg5'
       refine At.yes rfl rfl rfl rfl ?_
       refine At.move rfl rfl ?_
       refine At.yes rfl rfl rfl rfl ?_
       refine At.fieldAddr rfl fo33_2 rfl ?_
       refine At.yes rfl rfl rfl rfl ?_
       refine At.load rfl (Ld.ownCell ag9 hb1 (ht).c2) rfl ?_
       refine At.yes rfl rfl rfl rfl ?_
       refine At.buildSlice (xs := [.tmp 41]) rfl rfl el27 sz9 ze9 (by intro v hv; simp only [List.mem_cons, List.not_mem_nil, or_false] at hv; rcases hv with rfl <;> first | rfl | simp [Value.cells, Value.cells]) rfl (by decide) rfl (fun b3 w6 F3 => ?_)
       have n_b1_b3 : b1 ≠ b3 := Nat.ne_of_lt (F3.lt hb1)
       have gb3 := F3.ge hB
       replace hb1 := F3.old hb1
       have hb3 : w6.heap[b3]? = some (.cells #[.string t.nm] 9) := F3.new
       replace hB := F3.below' hB
       refine At.yes rfl rfl rfl rfl ?_
       refine At.call en27 rfl rfl (named_any name (.slice (some ⟨b3, 0, none⟩) 1 1) ([t.nm]) m _ (StrsAt.own (ss := [t.nm]) hb3 rfl (by decide) : StrsAt _ (.slice (some ⟨b3, 0, none⟩) 1 1) [t.nm]) (by simp) ((fun s hs => by rw [List.mem_singleton] at hs; subst hs; first | assumption | omega)) (cell_keep hm hB)) (fun e w7 hR => ?_)
       obtain ⟨rfl, hbl2⟩ := hR
       refine ⟨_, rfl, ?_⟩
       replace hb1 := Below.old hbl2 hb1
       replace hb3 := Below.old hbl2 hb3
       replace hB := Below.andThen hB hbl2
       refine At.yes rfl rfl rfl rfl ?_
       refine At.not rfl rfl ?_
       refine At.yes rfl rfl rfl rfl ?_
       refine At.pickT rfl rfl rfl ?_
       refine At.pickF rfl rfl rfl ?_
       refine At.assign rfl rfl ?_
       refine At.ops0 ?_
       exact At.joinedG () (Sub.cons rfl (Sub.cons rfl (Sub.cons (by show some (Value.bool (!(nmsB name ([t.nm])))) = some (Value.bool ((decide (name = 0) && (!decide (t.nm = (⟨#[]⟩ : ByteArray)))) || ((!decide (name = 0)) && (!(nmsB name ([t.nm])))))); first | (rw [hg3, hg4, hg5]; rfl) | (simp [hg3, hg4, hg5]; done) | (simp_all; done)) Sub.nil))) ⟨hB, hb1⟩
      ·skip
       refine At.set (d := 38) (u := .bool false) rfl (congrArg Value.bool hg5) ?_
       have hg5' := hg5; simp only [Bool.not_eq_true', Bool.not_eq_false', decide_eq_true_eq, decide_eq_false_iff_not] at hg5'
       refine At.no rfl rfl rfl rfl rfl rfl rfl ?_
       refine At.no rfl rfl rfl rfl rfl rfl rfl ?_
       refine At.no rfl rfl rfl rfl rfl rfl rfl ?_
       refine At.no rfl rfl rfl rfl rfl rfl rfl ?_
       refine At.no rfl rfl rfl rfl rfl rfl rfl ?_
       refine At.no rfl rfl rfl rfl rfl rfl rfl ?_
       refine At.yes rfl rfl rfl rfl ?_
       refine At.pickF rfl rfl rfl ?_
       refine At.pickF rfl rfl rfl ?_
       refine At.assign rfl rfl ?_
       refine At.ops0 ?_
       exact At.joinedG () (Sub.cons rfl (Sub.cons rfl (Sub.cons (by show some (Value.bool false) = some (Value.bool ((decide (name = 0) && (!decide (t.nm = (⟨#[]⟩ : ByteArray)))) || ((!decide (name = 0)) && (!(nmsB name ([t.nm])))))); first | (rw [hg3, hg4, hg5]; rfl) | (simp [hg3, hg4, hg5]; done) | (simp_all; done)) Sub.nil))) ⟨hB, hb1⟩
    ·skip
     refine At.set (d := 30) (u := .bool false) rfl (congrArg Value.bool hg3) ?_
     have hg3' := of_decide_eq_false hg3
     refine At.no rfl rfl rfl rfl rfl rfl rfl ?_
     refine At.no rfl rfl rfl rfl rfl rfl rfl ?_
     refine At.no rfl rfl rfl rfl rfl rfl rfl ?_
     refine At.pickF rfl rfl rfl ?_
     refine At.move rfl rfl ?_
     refine At.yes rfl rfl rfl rfl ?_
     refine At.move rfl rfl ?_
     refine At.yes rfl rfl rfl rfl ?_
     refine At.neI rfl rfl rfl ?_
     refine At.yes rfl rfl rfl rfl ?_
     refine At.move rfl rfl ?_
     refine At.cases ((!decide (name = 0))) (fun hg6 => ?_) (fun hg6 => ?_)
     ·skip
      refine At.set (d := 38) (u := .bool true) rfl (congrArg Value.bool hg6) ?_
      have hg6' := hg6; simp only [Bool.not_eq_true', Bool.not_eq_false', decide_eq_true_eq, decide_eq_false_iff_not] at hg6'
      refine At.yes rfl rfl rfl rfl ?_
      refine At.move rfl rfl ?_
      refine At.yes rfl rfl rfl rfl ?_
      refine At.fieldAddr rfl fo33_2 rfl ?_
      refine At.yes rfl rfl rfl rfl ?_
      refine At.load rfl (Ld.ownCell ag9 hb1 (ht).c2) rfl ?_
      refine At.yes rfl rfl rfl rfl ?_
      refine At.buildSlice (xs := [.tmp 41]) rfl rfl el27 sz9 ze9 (by intro v hv; simp only [List.mem_cons, List.not_mem_nil, or_false] at hv; rcases hv with rfl <;> first | rfl | simp [Value.cells, Value.cells]) rfl (by decide) rfl (fun b4 w8 F4 => ?_)
      have n_b1_b4 : b1 ≠ b4 := Nat.ne_of_lt (F4.lt hb1)
      have gb4 := F4.ge hB
      replace hb1 := F4.old hb1
      have hb4 : w8.heap[b4]? = some (.cells #[.string t.nm] 9) := F4.new
      replace hB := F4.below' hB
      refine At.yes rfl rfl rfl rfl ?_
      refine At.call en27 rfl rfl (named_any name (.slice (some ⟨b4, 0, none⟩) 1 1) ([t.nm]) m _ (StrsAt.own (ss := [t.nm]) hb4 rfl (by decide) : StrsAt _ (.slice (some ⟨b4, 0, none⟩) 1 1) [t.nm]) (by simp) ((fun s hs => by rw [List.mem_singleton] at hs; subst hs; first | assumption | omega)) (cell_keep hm hB)) (fun e w9 hR => ?_)
      obtain ⟨rfl, hbl3⟩ := hR
      refine ⟨_, rfl, ?_⟩
      replace hb1 := Below.old hbl3 hb1
      replace hb4 := Below.old hbl3 hb4
      replace hB := Below.andThen hB hbl3
      refine At.yes rfl rfl rfl rfl ?_
      refine At.not rfl rfl ?_
      refine At.yes rfl rfl rfl rfl ?_
      refine At.pickT rfl rfl rfl ?_
      refine At.pickF rfl rfl rfl ?_
      refine At.assign rfl rfl ?_
      refine At.ops0 ?_
      exact At.joinedG () (Sub.cons rfl (Sub.cons rfl (Sub.cons (by show some (Value.bool (!(nmsB name ([t.nm])))) = some (Value.bool ((decide (name = 0) && (!decide (t.nm = (⟨#[]⟩ : ByteArray)))) || ((!decide (name = 0)) && (!(nmsB name ([t.nm])))))); first | (rw [hg3, hg6]; rfl) | (simp [hg3, hg6]; done) | (simp_all; done)) Sub.nil))) ⟨hB, hb1⟩
     ·skip
      refine At.set (d := 38) (u := .bool false) rfl (congrArg Value.bool hg6) ?_
      have hg6' := hg6; simp only [Bool.not_eq_true', Bool.not_eq_false', decide_eq_true_eq, decide_eq_false_iff_not] at hg6'
      refine At.no rfl rfl rfl rfl rfl rfl rfl ?_
      refine At.no rfl rfl rfl rfl rfl rfl rfl ?_
      refine At.no rfl rfl rfl rfl rfl rfl rfl ?_
      refine At.no rfl rfl rfl rfl rfl rfl rfl ?_
      refine At.no rfl rfl rfl rfl rfl rfl rfl ?_
      refine At.no rfl rfl rfl rfl rfl rfl rfl ?_
      refine At.yes rfl rfl rfl rfl ?_
      refine At.pickF rfl rfl rfl ?_
      refine At.pickF rfl rfl rfl ?_
      refine At.assign rfl rfl ?_
      refine At.ops0 ?_
      exact At.joinedG () (Sub.cons rfl (Sub.cons rfl (Sub.cons (by show some (Value.bool false) = some (Value.bool ((decide (name = 0) && (!decide (t.nm = (⟨#[]⟩ : ByteArray)))) || ((!decide (name = 0)) && (!(nmsB name ([t.nm])))))); first | (rw [hg3, hg6]; rfl) | (simp [hg3, hg6]; done) | (simp_all; done)) Sub.nil))) ⟨hB, hb1⟩
   ·skip
    clear hB hb1
    obtain ⟨hB, hb1⟩ := hS
    show At _ _ [(3, .bool param), (5, .pointer (some ⟨b1, 0, none⟩)), (27, .bool ((decide (name = 0) && (!decide (t.nm = (⟨#[]⟩ : ByteArray)))) || ((!decide (name = 0)) && (!(nmsB name ([t.nm]))))))] _ _
    refine At.thenN ?_
    refine At.cond (b := ((decide (name = 0) && (!decide (t.nm = (⟨#[]⟩ : ByteArray)))) || ((!decide (name = 0)) && (!(nmsB name ([t.nm])))))) rfl (fun hc2 => ?_) (fun hc2 => ?_)
    ·skip
     refine At.seq ?_
     refine At.region ?_
     refine At.assign rfl rfl ?_
     refine At.ops0 ?_
     refine At.thenN ?_
     refine At.retc ?_
     refine At.inR ?_
     refine At.thenR ?_
     refine At.doneR (ResV.tmp rfl ResV.nil) ?_
     exact ⟨congrArg Ending.returned (congrArg Value.bool (by first | (simp only [hasB, ← nms_one, hc1, hc2, Bool.true_or, Bool.or_true, Bool.false_or, Bool.or_false, Bool.true_and, Bool.and_true, Bool.false_and, Bool.and_false, Bool.not_true, Bool.not_false, cond_true, cond_false]; done) | (simp [hasB, ← nms_one, hc1, hc2]; done) | (cases param <;> simp_all [hasB, ← nms_one]; done) | (cases arms <;> cases param <;> simp_all [hasB, ← nms_one]; done))), hB⟩
    ·skip
     refine At.seq ?_
     refine At.joinG (ι := Unit) (fun _ => [(5, .pointer (some ⟨b1, 0, none⟩)), (47, .bool (((!param) && (!decide (t.pm = (⟨#[]⟩ : ByteArray)))) || (param && (!(nmsB 2 ([t.pm]))))))]) (fun _ w12 => (Below w.heap.size w w12) ∧ (w12.heap[b1]? = some (.cells t.cs 33))) ?_ (fun gh w12 hS => ?_)
     ·skip
      refine At.region ?_
      refine At.move rfl rfl ?_
      refine At.not rfl rfl ?_
      refine At.move rfl rfl ?_
      refine At.cases ((!param)) (fun hg7 => ?_) (fun hg7 => ?_)
      ·skip
       refine At.set (d := 50) (u := .bool true) rfl (congrArg Value.bool hg7) ?_
       refine At.yes rfl rfl rfl rfl ?_
       refine At.fieldAddr rfl fo33_3 rfl ?_
       refine At.yes rfl rfl rfl rfl ?_
       refine At.load rfl (Ld.ownCell ag9 hb1 (ht).c3) rfl ?_
       refine At.yes rfl rfl rfl rfl ?_
       refine At.neS rfl rfl rfl ?_
       refine At.pickT rfl rfl rfl ?_
       refine At.move rfl rfl ?_
       refine At.cases ((!decide (t.pm = (⟨#[]⟩ : ByteArray)))) (fun hg8 => ?_) (fun hg8 => ?_)
       ·skip
        refine At.set (d := 55) (u := .bool true) rfl (congrArg Value.bool hg8) ?_
        have hg8' := hg8; simp only [Bool.not_eq_true', Bool.not_eq_false', decide_eq_true_eq, decide_eq_false_iff_not] at hg8'
        refine At.no rfl rfl rfl rfl rfl rfl rfl ?_
        refine At.no rfl rfl rfl rfl rfl rfl rfl ?_
        refine At.noU rfl rfl rfl rfl rfl rfl ?_
        refine At.noU rfl rfl rfl rfl rfl rfl ?_
        refine At.noU rfl rfl rfl rfl rfl rfl ?_
        refine At.noU rfl rfl rfl rfl rfl rfl ?_
        refine At.noU rfl rfl rfl rfl rfl rfl ?_
        refine At.no rfl rfl rfl rfl rfl rfl rfl ?_
        refine At.pickT rfl rfl rfl ?_
        refine At.assign rfl rfl ?_
        refine At.ops0 ?_
        exact At.joinedG () (Sub.cons rfl (Sub.cons (by show some (Value.bool true) = some (Value.bool (((!param) && (!decide (t.pm = (⟨#[]⟩ : ByteArray)))) || (param && (!(nmsB 2 ([t.pm])))))); first | (rw [hg7, hg8]; rfl) | (simp [hg7, hg8]; done) | (simp_all; done)) Sub.nil)) ⟨hB, hb1⟩
       ·skip
        refine At.set (d := 55) (u := .bool false) rfl (congrArg Value.bool hg8) ?_
        have hg8' := hg8; simp only [Bool.not_eq_true', Bool.not_eq_false', decide_eq_true_eq, decide_eq_false_iff_not] at hg8'
        refine At.yes rfl rfl rfl rfl ?_
        refine At.move rfl rfl ?_
        refine At.yes rfl rfl rfl rfl ?_
        refine At.move rfl rfl ?_
        refine At.cases (param) (fun hg9 => ?_) (fun hg9 => ?_)
        ·skip
         refine At.set (d := 57) (u := .bool true) rfl (congrArg Value.bool hg9) ?_
         refine At.yes rfl rfl rfl rfl ?_
         refine At.fieldAddr rfl fo33_3 rfl ?_
         refine At.yes rfl rfl rfl rfl ?_
         refine At.load rfl (Ld.ownCell ag9 hb1 (ht).c3) rfl ?_
         refine At.yes rfl rfl rfl rfl ?_
         refine At.buildSlice (xs := [.tmp 59]) rfl rfl el27 sz9 ze9 (by intro v hv; simp only [List.mem_cons, List.not_mem_nil, or_false] at hv; rcases hv with rfl <;> first | rfl | simp [Value.cells, Value.cells]) rfl (by decide) rfl (fun b6 w13 F6 => ?_)
         have n_b1_b6 : b1 ≠ b6 := Nat.ne_of_lt (F6.lt hb1)
         have gb6 := F6.ge hB
         replace hb1 := F6.old hb1
         have hb6 : w13.heap[b6]? = some (.cells #[.string t.pm] 9) := F6.new
         replace hB := F6.below' hB
         refine At.yes rfl rfl rfl rfl ?_
         refine At.call en27 rfl rfl (named_any 2 (.slice (some ⟨b6, 0, none⟩) 1 1) ([t.pm]) m _ (StrsAt.own (ss := [t.pm]) hb6 rfl (by decide) : StrsAt _ (.slice (some ⟨b6, 0, none⟩) 1 1) [t.pm]) (by simp) ((fun s hs => by rw [List.mem_singleton] at hs; subst hs; first | assumption | omega)) (cell_keep hm hB)) (fun e w14 hR => ?_)
         obtain ⟨rfl, hbl5⟩ := hR
         refine ⟨_, rfl, ?_⟩
         replace hb1 := Below.old hbl5 hb1
         replace hb6 := Below.old hbl5 hb6
         replace hB := Below.andThen hB hbl5
         refine At.yes rfl rfl rfl rfl ?_
         refine At.not rfl rfl ?_
         refine At.yes rfl rfl rfl rfl ?_
         refine At.pickT rfl rfl rfl ?_
         refine At.pickF rfl rfl rfl ?_
         refine At.assign rfl rfl ?_
         refine At.ops0 ?_
         exact At.joinedG () (Sub.cons rfl (Sub.cons (by show some (Value.bool (!(nmsB 2 ([t.pm])))) = some (Value.bool (((!param) && (!decide (t.pm = (⟨#[]⟩ : ByteArray)))) || (param && (!(nmsB 2 ([t.pm])))))); first | (rw [hg7, hg8, hg9]; rfl) | (simp [hg7, hg8, hg9]; done) | (simp_all; done)) Sub.nil)) ⟨hB, hb1⟩
        ·skip
         refine At.set (d := 57) (u := .bool false) rfl (congrArg Value.bool hg9) ?_
         refine At.no rfl rfl rfl rfl rfl rfl rfl ?_
         refine At.no rfl rfl rfl rfl rfl rfl rfl ?_
         refine At.no rfl rfl rfl rfl rfl rfl rfl ?_
         refine At.no rfl rfl rfl rfl rfl rfl rfl ?_
         refine At.no rfl rfl rfl rfl rfl rfl rfl ?_
         refine At.yes rfl rfl rfl rfl ?_
         refine At.pickF rfl rfl rfl ?_
         refine At.pickF rfl rfl rfl ?_
         refine At.assign rfl rfl ?_
         refine At.ops0 ?_
         exact At.joinedG () (Sub.cons rfl (Sub.cons (by show some (Value.bool false) = some (Value.bool (((!param) && (!decide (t.pm = (⟨#[]⟩ : ByteArray)))) || (param && (!(nmsB 2 ([t.pm])))))); first | (rw [hg7, hg8, hg9]; rfl) | (simp [hg7, hg8, hg9]; done) | (simp_all; done)) Sub.nil)) ⟨hB, hb1⟩
      ·skip
       refine At.set (d := 50) (u := .bool false) rfl (congrArg Value.bool hg7) ?_
       refine At.no rfl rfl rfl rfl rfl rfl rfl ?_
       refine At.no rfl rfl rfl rfl rfl rfl rfl ?_
       refine At.no rfl rfl rfl rfl rfl rfl rfl ?_
       refine At.pickF rfl rfl rfl ?_
       refine At.move rfl rfl ?_
       refine At.yes rfl rfl rfl rfl ?_
       refine At.move rfl rfl ?_
       refine At.yes rfl rfl rfl rfl ?_
       refine At.move rfl rfl ?_
       refine At.cases (param) (fun hg10 => ?_) (fun hg10 => ?_)
       ·skip
        refine At.set (d := 57) (u := .bool true) rfl (congrArg Value.bool hg10) ?_
        refine At.yes rfl rfl rfl rfl ?_
        refine At.fieldAddr rfl fo33_3 rfl ?_
        refine At.yes rfl rfl rfl rfl ?_
        refine At.load rfl (Ld.ownCell ag9 hb1 (ht).c3) rfl ?_
        refine At.yes rfl rfl rfl rfl ?_
        refine At.buildSlice (xs := [.tmp 59]) rfl rfl el27 sz9 ze9 (by intro v hv; simp only [List.mem_cons, List.not_mem_nil, or_false] at hv; rcases hv with rfl <;> first | rfl | simp [Value.cells, Value.cells]) rfl (by decide) rfl (fun b7 w15 F7 => ?_)
        have n_b1_b7 : b1 ≠ b7 := Nat.ne_of_lt (F7.lt hb1)
        have gb7 := F7.ge hB
        replace hb1 := F7.old hb1
        have hb7 : w15.heap[b7]? = some (.cells #[.string t.pm] 9) := F7.new
        replace hB := F7.below' hB
        refine At.yes rfl rfl rfl rfl ?_
        refine At.call en27 rfl rfl (named_any 2 (.slice (some ⟨b7, 0, none⟩) 1 1) ([t.pm]) m _ (StrsAt.own (ss := [t.pm]) hb7 rfl (by decide) : StrsAt _ (.slice (some ⟨b7, 0, none⟩) 1 1) [t.pm]) (by simp) ((fun s hs => by rw [List.mem_singleton] at hs; subst hs; first | assumption | omega)) (cell_keep hm hB)) (fun e w16 hR => ?_)
        obtain ⟨rfl, hbl6⟩ := hR
        refine ⟨_, rfl, ?_⟩
        replace hb1 := Below.old hbl6 hb1
        replace hb7 := Below.old hbl6 hb7
        replace hB := Below.andThen hB hbl6
        refine At.yes rfl rfl rfl rfl ?_
        refine At.not rfl rfl ?_
        refine At.yes rfl rfl rfl rfl ?_
        refine At.pickT rfl rfl rfl ?_
        refine At.pickF rfl rfl rfl ?_
        refine At.assign rfl rfl ?_
        refine At.ops0 ?_
        exact At.joinedG () (Sub.cons rfl (Sub.cons (by show some (Value.bool (!(nmsB 2 ([t.pm])))) = some (Value.bool (((!param) && (!decide (t.pm = (⟨#[]⟩ : ByteArray)))) || (param && (!(nmsB 2 ([t.pm])))))); first | (rw [hg7, hg10]; rfl) | (simp [hg7, hg10]; done) | (simp_all; done)) Sub.nil)) ⟨hB, hb1⟩
       ·skip
        refine At.set (d := 57) (u := .bool false) rfl (congrArg Value.bool hg10) ?_
        refine At.no rfl rfl rfl rfl rfl rfl rfl ?_
        refine At.no rfl rfl rfl rfl rfl rfl rfl ?_
        refine At.no rfl rfl rfl rfl rfl rfl rfl ?_
        refine At.no rfl rfl rfl rfl rfl rfl rfl ?_
        refine At.no rfl rfl rfl rfl rfl rfl rfl ?_
        refine At.yes rfl rfl rfl rfl ?_
        refine At.pickF rfl rfl rfl ?_
        refine At.pickF rfl rfl rfl ?_
        refine At.assign rfl rfl ?_
        refine At.ops0 ?_
        exact At.joinedG () (Sub.cons rfl (Sub.cons (by show some (Value.bool false) = some (Value.bool (((!param) && (!decide (t.pm = (⟨#[]⟩ : ByteArray)))) || (param && (!(nmsB 2 ([t.pm])))))); first | (rw [hg7, hg10]; rfl) | (simp [hg7, hg10]; done) | (simp_all; done)) Sub.nil)) ⟨hB, hb1⟩
     ·skip
      clear hB hb1
      obtain ⟨hB, hb1⟩ := hS
      show At _ _ [(5, .pointer (some ⟨b1, 0, none⟩)), (47, .bool (((!param) && (!decide (t.pm = (⟨#[]⟩ : ByteArray)))) || (param && (!(nmsB 2 ([t.pm]))))))] _ _
      refine At.thenN ?_
      refine At.cond (b := (((!param) && (!decide (t.pm = (⟨#[]⟩ : ByteArray)))) || (param && (!(nmsB 2 ([t.pm])))))) rfl (fun hc3 => ?_) (fun hc3 => ?_)
      ·skip
       refine At.seq ?_
       refine At.region ?_
       refine At.assign rfl rfl ?_
       refine At.ops0 ?_
       refine At.thenN ?_
       refine At.retc ?_
       refine At.inR ?_
       refine At.thenR ?_
       refine At.doneR (ResV.tmp rfl ResV.nil) ?_
       exact ⟨congrArg Ending.returned (congrArg Value.bool (by first | (simp only [hasB, ← nms_one, hc1, hc2, hc3, Bool.true_or, Bool.or_true, Bool.false_or, Bool.or_false, Bool.true_and, Bool.and_true, Bool.false_and, Bool.and_false, Bool.not_true, Bool.not_false, cond_true, cond_false]; done) | (simp [hasB, ← nms_one, hc1, hc2, hc3]; done) | (cases param <;> simp_all [hasB, ← nms_one]; done) | (cases arms <;> cases param <;> simp_all [hasB, ← nms_one]; done))), hB⟩
      ·skip
       refine At.skip ?_
       refine At.inN ?_
       refine At.thenN ?_
       refine At.seq ?_
       refine At.joinG (ι := Unit) (fun _ => [(10, .bool ((decide (t.k = 2) || decide (t.k = 3)) || decide (t.n = 0)))]) (fun _ w17 => (Below w.heap.size w w17)) ?_ (fun gh w17 hS => ?_)
       ·skip
        refine At.region ?_
        refine At.fieldAddr rfl fo33_0 rfl ?_
        refine At.load rfl (Ld.ownCell ag3 hb1 (ht).c0) rfl ?_
        refine At.eqI rfl rfl rfl ?_
        refine At.move rfl rfl ?_
        refine At.cases (decide (t.k = 2)) (fun hg11 => ?_) (fun hg11 => ?_)
        ·skip
         refine At.set (d := 68) (u := .bool true) rfl (congrArg Value.bool hg11) ?_
         have hg11' := of_decide_eq_true hg11
         refine At.no rfl rfl rfl rfl rfl rfl rfl ?_
         refine At.no rfl rfl rfl rfl rfl rfl rfl ?_
         refine At.no rfl rfl rfl rfl rfl rfl rfl ?_
         refine At.pickT rfl rfl rfl ?_
         refine At.move rfl rfl ?_
         refine At.no rfl rfl rfl rfl rfl rfl rfl ?_
         refine At.no rfl rfl rfl rfl rfl rfl rfl ?_
         refine At.no rfl rfl rfl rfl rfl rfl rfl ?_
         refine At.pickT rfl rfl rfl ?_
         refine At.assign rfl rfl ?_
         refine At.ops0 ?_
         exact At.joinedG () (Sub.cons (by show some (Value.bool true) = some (Value.bool ((decide (t.k = 2) || decide (t.k = 3)) || decide (t.n = 0))); first | (rw [hg11]; rfl) | (simp [hg11]; done) | (simp_all; done)) Sub.nil) hB
        ·skip
         refine At.set (d := 68) (u := .bool false) rfl (congrArg Value.bool hg11) ?_
         have hg11' := of_decide_eq_false hg11
         refine At.yes rfl rfl rfl rfl ?_
         refine At.fieldAddr rfl fo33_0 rfl ?_
         refine At.yes rfl rfl rfl rfl ?_
         refine At.load rfl (Ld.ownCell ag3 hb1 (ht).c0) rfl ?_
         refine At.yes rfl rfl rfl rfl ?_
         refine At.eqI rfl rfl rfl ?_
         refine At.pickF rfl rfl rfl ?_
         refine At.move rfl rfl ?_
         refine At.cases (decide (t.k = 3)) (fun hg12 => ?_) (fun hg12 => ?_)
         ·skip
          refine At.set (d := 73) (u := .bool true) rfl (congrArg Value.bool hg12) ?_
          have hg12' := of_decide_eq_true hg12
          refine At.no rfl rfl rfl rfl rfl rfl rfl ?_
          refine At.no rfl rfl rfl rfl rfl rfl rfl ?_
          refine At.no rfl rfl rfl rfl rfl rfl rfl ?_
          refine At.pickT rfl rfl rfl ?_
          refine At.assign rfl rfl ?_
          refine At.ops0 ?_
          exact At.joinedG () (Sub.cons (by show some (Value.bool true) = some (Value.bool ((decide (t.k = 2) || decide (t.k = 3)) || decide (t.n = 0))); first | (rw [hg11, hg12]; rfl) | (simp [hg11, hg12]; done) | (simp_all; done)) Sub.nil) hB
         ·skip
          refine At.set (d := 73) (u := .bool false) rfl (congrArg Value.bool hg12) ?_
          have hg12' := of_decide_eq_false hg12
          refine At.yes rfl rfl rfl rfl ?_
          refine At.fieldAddr rfl fo33_4 rfl ?_
          refine At.yes rfl rfl rfl rfl ?_
          refine At.load rfl (Ld.ownCell ag3 hb1 (ht).c4) rfl ?_
          refine At.yes rfl rfl rfl rfl ?_
          refine At.eqI rfl rfl rfl ?_
          refine At.pickF rfl rfl rfl ?_
          refine At.assign rfl rfl ?_
          refine At.ops0 ?_
          exact At.joinedG () (Sub.cons (by show some (Value.bool (decide (t.n = 0))) = some (Value.bool ((decide (t.k = 2) || decide (t.k = 3)) || decide (t.n = 0))); first | (rw [hg11, hg12]; rfl) | (simp [hg11, hg12]; done) | (simp_all; done)) Sub.nil) hB
       ·skip
        clear hB hb1
        have hB := hS
        show At _ _ [(10, .bool ((decide (t.k = 2) || decide (t.k = 3)) || decide (t.n = 0)))] _ _
        refine At.thenN ?_
        refine At.retc ?_
        refine At.doneR (ResV.tmp rfl ResV.nil) ?_
        exact ⟨congrArg Ending.returned (congrArg Value.bool (by first | (simp only [hasB, ← nms_one, hc1, hc2, hc3, Bool.true_or, Bool.or_true, Bool.false_or, Bool.or_false, Bool.true_and, Bool.and_true, Bool.false_and, Bool.and_false, Bool.not_true, Bool.not_false, cond_true, cond_false]; done) | (simp [hasB, ← nms_one, hc1, hc2, hc3]; done) | (cases param <;> simp_all [hasB, ← nms_one]; done) | (cases arms <;> cases param <;> simp_all [hasB, ← nms_one]; done))), hB⟩
theorem alone1_any (a : Am) (m : Int) (w : World) (ha : AmOk w a) (hz : a.nm.size ≤ 4194304) (hm : w.cell? ⟨0, 0, none⟩ = some (.int .i64 m)) :
  Calls Tryz.prog 114 ([.agg a.cs] : List Value).toArray w fun e w' => e = .returned (.bool (!nmB 3 a.nm)) ∧ Below w.heap.size w w' := by
 have hB := Below.refl w.heap.size w
 refine At.enter (N := 8) Tryz.func114 rfl rfl (by simp) [(0, .agg a.cs)] (by simp) ?_
 refine At.seq ?_
 refine At.region ?_
 refine At.box rfl rfl (fun b1 w1 F1 => ?_)
 have gb1 := F1.ge hB
 have hb1 : w1.heap[b1]? = some (.cells a.cs 48) := F1.new
 replace hB := F1.below' hB
 refine At.assign rfl rfl ?_
 refine At.ops0 ?_
 refine At.thenN ?_
 refine At.seq ?_
 refine At.region ?_
 refine At.fieldAddr rfl fo48_0 rfl ?_
 refine At.load rfl (Ld.ownCell ag9 hb1 (ha).c0) rfl ?_
 refine At.buildSlice (xs := [.tmp 4]) rfl rfl el27 sz9 ze9 (by intro v hv; simp only [List.mem_cons, List.not_mem_nil, or_false] at hv; rcases hv with rfl <;> first | rfl | simp [Value.cells, Value.cells]) rfl (by decide) rfl (fun b2 w2 F2 => ?_)
 have n_b1_b2 : b1 ≠ b2 := Nat.ne_of_lt (F2.lt hb1)
 have gb2 := F2.ge hB
 replace hb1 := F2.old hb1
 have hb2 : w2.heap[b2]? = some (.cells #[.string a.nm] 9) := F2.new
 replace hB := F2.below' hB
 refine At.call en27 rfl rfl (named_any 3 (.slice (some ⟨b2, 0, none⟩) 1 1) ([a.nm]) m _ (StrsAt.own (ss := [a.nm]) hb2 rfl (by decide) : StrsAt _ (.slice (some ⟨b2, 0, none⟩) 1 1) [a.nm]) (by simp) ((fun s hs => by rw [List.mem_singleton] at hs; subst hs; first | assumption | omega)) (cell_keep hm hB)) (fun e w3 hR => ?_)
 obtain ⟨rfl, hbl1⟩ := hR
 refine ⟨_, rfl, ?_⟩
 replace hb1 := Below.old hbl1 hb1
 replace hb2 := Below.old hbl1 hb2
 replace hB := Below.andThen hB hbl1
 refine At.not rfl rfl ?_
 refine At.assign rfl rfl ?_
 refine At.ops0 ?_
 refine At.thenN ?_
 refine At.retc ?_
 refine At.doneR (ResV.tmp rfl ResV.nil) ?_
 exact ⟨congrArg Ending.returned (congrArg Value.bool (show (!nmsB 3 [a.nm]) = _ by rw [nms_one])), hB⟩
end Go.Proofs.YtkclecfbjfdfkaaGreatDoor
