/-
  The walks of the lookups of the layer scope and of its reference: what each call does, for every argument that lies so in memory. Written by a program of ours (wip/tools/scope1.py).
-/
import Derived.Test.YtkclfcdppnlkbaaS1
set_option linter.unusedVariables false
set_option linter.unusedSimpArgs false
namespace Go.Proofs.Ytkclfcdppnlkbaa
open Go.RowKit
theorem ag22 : aggB Try.prog 22 = some false := by kernel_rfl
theorem ag23 : aggB Try.prog 23 = some false := by kernel_rfl
theorem ag41 : aggB Try.prog 41 = some false := by kernel_rfl
theorem ag43 : aggB Try.prog 43 = some true := by kernel_rfl
theorem ag45 : aggB Try.prog 45 = some true := by kernel_rfl
theorem ag50 : aggB Try.prog 50 = some false := by kernel_rfl
theorem ag52 : aggB Try.prog 52 = some true := by kernel_rfl
theorem ag54 : aggB Try.prog 54 = some true := by kernel_rfl
theorem ag9 : aggB Try.prog 9 = some false := by kernel_rfl
theorem el22 : elemB Try.prog 22 = some 43 := by kernel_rfl
theorem el23 : elemB Try.prog 23 = some 52 := by kernel_rfl
theorem el27 : elemB Try.prog 27 = some 9 := by kernel_rfl
theorem el41 : elemB Try.prog 41 = some 45 := by kernel_rfl
theorem el50 : elemB Try.prog 50 = some 54 := by kernel_rfl
theorem en31 : entB Try.prog 31 = true := by kernel_rfl
theorem en32 : entB Try.prog 32 = true := by kernel_rfl
theorem en33 : entB Try.prog 33 = true := by kernel_rfl
theorem en34 : entB Try.prog 34 = true := by kernel_rfl
theorem en35 : entB Try.prog 35 = true := by kernel_rfl
theorem en36 : entB Try.prog 36 = true := by kernel_rfl
theorem en59 : entB Try.prog 59 = true := by kernel_rfl
theorem fo35_0 : fieldB Try.prog 35 0 = some (0, 1) := by kernel_rfl
theorem fo35_1 : fieldB Try.prog 35 1 = some (1, 1) := by kernel_rfl
theorem fo43_0 : fieldB Try.prog 43 0 = some (0, 1) := by kernel_rfl
theorem fo43_1 : fieldB Try.prog 43 1 = some (1, 1) := by kernel_rfl
theorem fo45_0 : fieldB Try.prog 45 0 = some (0, 1) := by kernel_rfl
theorem fo52_1 : fieldB Try.prog 52 1 = some (1, 1) := by kernel_rfl
theorem fo54_0 : fieldB Try.prog 54 0 = some (0, 1) := by kernel_rfl
theorem mixed : Try.prog.follows .mixedOrders = true := by kernel_rfl
theorem sd43 : sizedB Try.prog 43 = true := by kernel_rfl
theorem sd45 : sizedB Try.prog 45 = true := by kernel_rfl
theorem sd52 : sizedB Try.prog 52 = true := by kernel_rfl
theorem sd54 : sizedB Try.prog 54 = true := by kernel_rfl
theorem sz43 : sizeB Try.prog 43 = some 2 := by kernel_rfl
theorem sz45 : sizeB Try.prog 45 = some 13 := by kernel_rfl
theorem sz52 : sizeB Try.prog 52 = some 2 := by kernel_rfl
theorem sz54 : sizeB Try.prog 54 = some 2 := by kernel_rfl
theorem sz9 : sizeB Try.prog 9 = some 1 := by kernel_rfl
theorem ze43 : zeroB Try.prog 43 = some (.agg #[.string (⟨#[]⟩ : ByteArray), (.slice none 0 0)]) := by kernel_rfl
theorem ze45 : zeroB Try.prog 45 = some (.agg #[.string (⟨#[]⟩ : ByteArray), .int .i64 0, .string (⟨#[]⟩ : ByteArray), .int .i64 0, (.slice none 0 0), (.slice none 0 0), .int .i64 0, .int .i64 0, .string (⟨#[]⟩ : ByteArray), .int .i64 0, (.slice none 0 0), (.slice none 0 0), .int .i64 0]) := by kernel_rfl
theorem ze52 : zeroB Try.prog 52 = some (.agg #[.string (⟨#[]⟩ : ByteArray), (.slice none 0 0)]) := by kernel_rfl
theorem ze54 : zeroB Try.prog 54 = some (.agg #[.string (⟨#[]⟩ : ByteArray), (.slice none 0 0)]) := by kernel_rfl
theorem index_any (v : Value) (ss : List ByteArray) (s : ByteArray) (w : World) (hv : StrsAt w v ss) (hl : ss.length ≤ 9223372036854775807) :
    Calls Try.prog 59 ([v, .string s] : List Value).toArray w fun e w' => e = .returned (.int .i64 (idxI (fun x : ByteArray => decide (x = s)) ss)) ∧ w = w' := by
  have hB := Below.refl w.heap.size w
  refine At.enter (N := 19) Try.func59 rfl rfl (by simp) [(0, v), (1, .string s)] (by simp) ?_
  refine At.seq ?_
  refine At.region ?_
  refine At.assign rfl rfl ?_
  refine At.ops0 ?_
  refine At.thenN ?_
  refine At.seq ?_
  refine At.seq ?_
  refine At.region ?_
  refine At.move rfl rfl ?_
  refine At.lenSl rfl (hv).ok el27 rfl ?_
  refine At.move rfl rfl ?_
  refine At.ops0 ?_
  refine At.thenN ?_
  refine At.block ?_
  refine At.loop (Nat) (fun k => [(0, v), (1, .string s), (7, .int .i64 (ss.length : Int)), (8, .int .i64 (k : Int))]) (fun k w1 => w = w1 ∧ (k ≤ ss.length) ∧ (∀ i x, i < k → ss[i]? = some x → (fun x : ByteArray => decide (x = s)) x = false)) (fun k => ss.length - k) (0 : Nat) (Sub.cons rfl (Sub.cons rfl (Sub.cons rfl (Sub.cons rfl Sub.nil)))) ⟨rfl, (Nat.zero_le _), (fun j x hj => absurd hj (Nat.not_lt_zero j))⟩ (fun k w1 hI => ?_)
  obtain ⟨rfl, hk, hn⟩ := hI
  show At _ _ [(0, v), (1, .string s), (7, .int .i64 (ss.length : Int)), (8, .int .i64 (k : Int))] _ _
  refine At.seq ?_
  refine At.region ?_
  refine At.lss rfl rfl rfl ?_
  refine At.ops0 ?_
  refine At.thenN ?_
  refine At.seq ?_
  refine At.cond (b := decide ((k : Int) < (ss.length : Int))) rfl (fun hc1 => ?_) (fun hc1 => ?_)
  · skip
    have hc1' := of_decide_eq_true hc1
    refine At.skip ?_
    refine At.thenN ?_
    refine At.seq ?_
    refine At.block ?_
    refine At.seq ?_
    refine At.region ?_
    refine At.move rfl rfl ?_
    refine At.assign rfl rfl ?_
    refine At.ops0 ?_
    refine At.thenN ?_
    refine At.seq ?_
    refine At.region ?_
    refine At.move rfl rfl ?_
    refine At.move rfl rfl ?_
    refine At.move rfl rfl ?_
    obtain ⟨u1, hu1⟩ := some_of_lt (l := ss) (i := k) (by omega)
    refine At.indexAddr (i := k) rfl rfl (hv).ok (lt_of_some hu1) el27 sz9 rfl ?_
    refine At.load rfl (Ld.cell ag9 (cell_keep ((hv).get hu1) hB)) rfl ?_
    refine At.eqS rfl rfl rfl ?_
    refine At.ops0 ?_
    refine At.thenN ?_
    refine At.cond (b := decide (s = u1)) rfl (fun hc2 => ?_) (fun hc2 => ?_)
    · skip
      have hc2' := of_decide_eq_true hc2
      refine At.seq ?_
      refine At.region ?_
      refine At.move rfl rfl ?_
      refine At.assign rfl rfl ?_
      refine At.ops0 ?_
      refine At.thenN ?_
      refine At.retc ?_
      refine At.inR ?_
      refine At.thenR ?_
      refine At.thenR ?_
      refine At.inR ?_
      refine At.thenR ?_
      refine At.doneR (ResV.tmp rfl ResV.nil) ?_
      exact ⟨congrArg Ending.returned (congrArg (Value.int .i64) (idxI_yes hu1 (by simpa using hc2'.symm) hn).symm), rfl⟩
    · skip
      have hc2' := of_decide_eq_false hc2
      refine At.skip ?_
      refine At.inN ?_
      refine At.thenN ?_
      refine At.region ?_
      refine At.addI rfl rfl rfl (by omega) ?_
      refine At.move rfl rfl ?_
      refine At.ops0 ?_
      refine At.thenN ?_
      exact fun a ha => ⟨(k + 1), ha.sub (Sub.cons rfl (Sub.cons rfl (Sub.cons rfl (Sub.cons rfl Sub.nil)))), ⟨rfl, (by omega), (next_no hn hu1 (by simpa using fun e : u1 = s => hc2' e.symm))⟩, by first | omega | (dsimp only; omega)⟩
  · skip
    have hc1' := of_decide_eq_false hc1
    refine At.exit ?_
    refine At.thenE ?_
    refine At.thenE ?_
    refine At.inE ?_
    refine At.thenN ?_
    refine At.seq ?_
    refine At.region ?_
    refine At.assign rfl rfl ?_
    refine At.ops0 ?_
    refine At.thenN ?_
    refine At.retc ?_
    refine At.doneR (ResV.tmp rfl ResV.nil) ?_
    exact ⟨congrArg Ending.returned (congrArg (Value.int .i64) (idxI_no (by omega) hn).symm), rfl⟩
theorem contains_any (v : Value) (ss : List ByteArray) (s : ByteArray) (w : World) (hv : StrsAt w v ss) (hl : ss.length ≤ 9223372036854775807) :
    Calls Try.prog 50 ([v, .string s] : List Value).toArray w fun e w' => e = .returned (.bool (memB s ss)) ∧ w = w' := by
  have hB := Below.refl w.heap.size w
  refine At.enter (N := 9) Try.func50 rfl rfl (by simp) [(0, v), (1, .string s)] (by simp) ?_
  refine At.seq ?_
  refine At.region ?_
  refine At.assign rfl rfl ?_
  refine At.ops0 ?_
  refine At.thenN ?_
  refine At.seq ?_
  refine At.region ?_
  refine At.move rfl rfl ?_
  refine At.move rfl rfl ?_
  refine At.call en59 rfl rfl (index_any v ss s _ ((hv).keep hB) (by omega)) (fun e w' hR => ?_)
  obtain ⟨rfl, rfl⟩ := hR
  refine ⟨_, rfl, ?_⟩
  refine At.geq rfl rfl rfl ?_
  refine At.assign rfl rfl ?_
  refine At.ops0 ?_
  refine At.thenN ?_
  refine At.retc ?_
  refine At.doneR (ResV.tmp rfl ResV.nil) ?_
  exact ⟨congrArg Ending.returned (congrArg Value.bool (idxI_geq _ _)), rfl⟩
theorem indexF_Op (v : Value) (l : List Op) (c : FuncId) (cap : List Value) (p : Op → Bool) (w : World) (hv : RowsAt w v 13 (l.map Op.cs)) (hE : ∀ u ∈ l, OpOk u) (hent : entB Try.prog c = true) (hl : l.length ≤ 9223372036854775807)
    (hclo : ∀ (u : Op) (w1 : World), Below w.heap.size w w1 → OpOk u → Calls Try.prog c ([.agg u.cs] ++ cap : List Value).toArray w1 fun e w2 => e = .returned (.bool (p u)) ∧ Below w1.heap.size w1 w2) :
    Calls Try.prog 31 ([v, .func (.func c) #[] cap.toArray] : List Value).toArray w fun e w' => e = .returned (.int .i64 (idxI p l)) ∧ Below w.heap.size w w' := by
  have hB := Below.refl w.heap.size w
  refine At.enter (N := 19) Try.func31 rfl rfl (by simp) [(0, v), (1, .func (.func c) #[] cap.toArray)] (by simp) ?_
  refine At.seq ?_
  refine At.region ?_
  refine At.assign rfl rfl ?_
  refine At.ops0 ?_
  refine At.thenN ?_
  refine At.seq ?_
  refine At.seq ?_
  refine At.region ?_
  refine At.move rfl rfl ?_
  refine At.lenSl rfl hv.okL el41 rfl ?_
  refine At.move rfl rfl ?_
  refine At.ops0 ?_
  refine At.thenN ?_
  refine At.block ?_
  refine At.loop (Nat) (fun k => [(0, v), (1, .func (.func c) #[] cap.toArray), (7, .int .i64 (l.length : Int)), (8, .int .i64 (k : Int))]) (fun k w1 => Below w.heap.size w w1 ∧ (k ≤ l.length) ∧ (∀ i x, i < k → l[i]? = some x → p x = false)) (fun k => l.length - k) (0 : Nat) (Sub.cons rfl (Sub.cons rfl (Sub.cons rfl (Sub.cons rfl Sub.nil)))) ⟨hB, (Nat.zero_le _), (fun j x hj => absurd hj (Nat.not_lt_zero j))⟩ (fun k w1 hI => ?_)
  clear hB
  obtain ⟨hB, hk, hn⟩ := hI
  show At _ _ [(0, v), (1, .func (.func c) #[] cap.toArray), (7, .int .i64 (l.length : Int)), (8, .int .i64 (k : Int))] _ _
  refine At.seq ?_
  refine At.region ?_
  refine At.lss rfl rfl rfl ?_
  refine At.ops0 ?_
  refine At.thenN ?_
  refine At.seq ?_
  refine At.cond (b := decide ((k : Int) < (l.length : Int))) rfl (fun hc1 => ?_) (fun hc1 => ?_)
  · skip
    have hc1' := of_decide_eq_true hc1
    refine At.skip ?_
    refine At.thenN ?_
    refine At.seq ?_
    refine At.block ?_
    refine At.seq ?_
    refine At.region ?_
    refine At.move rfl rfl ?_
    refine At.assign rfl rfl ?_
    refine At.ops0 ?_
    refine At.thenN ?_
    refine At.seq ?_
    refine At.region ?_
    refine At.move rfl rfl ?_
    refine At.move rfl rfl ?_
    refine At.move rfl rfl ?_
    obtain ⟨u1, hu1⟩ := some_of_lt (l := l) (i := k) (by omega)
    refine At.indexAddr (i := k) rfl rfl hv.okL (lt_of_some hu1) el41 sz45 rfl ?_
    refine At.load rfl (Ld.row ag45 (sz45.trans (congrArg some ((hE u1 (List.mem_of_getElem? hu1))).size.symm)) (((hv).row hu1).keep hB)) rfl ?_
    refine At.callV rfl hent rfl rfl (hclo u1 _ hB (hE u1 (List.mem_of_getElem? hu1))) (fun e w2 hR => ?_)
    obtain ⟨rfl, hbl1⟩ := hR
    refine ⟨_, rfl, ?_⟩
    replace hB := Below.andThen hB hbl1
    refine At.ops0 ?_
    refine At.thenN ?_
    refine At.cond (b := (p u1)) rfl (fun hc2 => ?_) (fun hc2 => ?_)
    · skip
      refine At.seq ?_
      refine At.region ?_
      refine At.move rfl rfl ?_
      refine At.assign rfl rfl ?_
      refine At.ops0 ?_
      refine At.thenN ?_
      refine At.retc ?_
      refine At.inR ?_
      refine At.thenR ?_
      refine At.thenR ?_
      refine At.inR ?_
      refine At.thenR ?_
      refine At.doneR (ResV.tmp rfl ResV.nil) ?_
      exact ⟨congrArg Ending.returned (congrArg (Value.int .i64) (idxI_yes hu1 hc2 hn).symm), hB⟩
    · skip
      refine At.skip ?_
      refine At.inN ?_
      refine At.thenN ?_
      refine At.region ?_
      refine At.addI rfl rfl rfl (by omega) ?_
      refine At.move rfl rfl ?_
      refine At.ops0 ?_
      refine At.thenN ?_
      exact fun a ha => ⟨(k + 1), ha.sub (Sub.cons rfl (Sub.cons rfl (Sub.cons rfl (Sub.cons rfl Sub.nil)))), ⟨hB, (by omega), (next_no hn hu1 hc2)⟩, by first | omega | (dsimp only; omega)⟩
  · skip
    have hc1' := of_decide_eq_false hc1
    refine At.exit ?_
    refine At.thenE ?_
    refine At.thenE ?_
    refine At.inE ?_
    refine At.thenN ?_
    refine At.seq ?_
    refine At.region ?_
    refine At.assign rfl rfl ?_
    refine At.ops0 ?_
    refine At.thenN ?_
    refine At.retc ?_
    refine At.doneR (ResV.tmp rfl ResV.nil) ?_
    exact ⟨congrArg Ending.returned (congrArg (Value.int .i64) (idxI_no (by omega) hn).symm), hB⟩
theorem clo_Op (u : Op) (b0 : Nat) (s : ByteArray) (w : World) (hu : OpOk u) (hb0 : w.heap[b0]? = some (.cells #[.string s] 9)) :
    Calls Try.prog 32 ([.agg u.cs, .pointer (some ⟨b0, 0, none⟩)] : List Value).toArray w fun e w' => e = .returned (.bool (opIs s u)) ∧ Below w.heap.size w w' := by
  have hB := Below.refl w.heap.size w
  refine At.enter (N := 8) Try.func32 rfl rfl (by simp) [(0, .agg u.cs), (1, .pointer (some ⟨b0, 0, none⟩))] (by simp) ?_
  refine At.seq ?_
  refine At.region ?_
  refine At.box rfl rfl (fun b1 w1 F1 => ?_)
  have n_b0_b1 : b0 ≠ b1 := Nat.ne_of_lt (F1.lt hb0)
  have gb1 := F1.ge hB
  replace hb0 := F1.old hb0
  have hb1 : w1.heap[b1]? = some (.cells u.cs 45) := F1.new
  replace hB := F1.below' hB
  refine At.assign rfl rfl ?_
  refine At.ops0 ?_
  refine At.thenN ?_
  refine At.seq ?_
  refine At.region ?_
  refine At.fieldAddr rfl fo45_0 rfl ?_
  refine At.load rfl (Ld.ownCell ag9 hb1 (hu).c0) rfl ?_
  refine At.load rfl (Ld.ownCell ag9 hb0 rfl) rfl ?_
  refine At.eqS rfl rfl rfl ?_
  refine At.assign rfl rfl ?_
  refine At.ops0 ?_
  refine At.thenN ?_
  refine At.retc ?_
  refine At.doneR (ResV.tmp rfl ResV.nil) ?_
  exact ⟨rfl, hB⟩
theorem indexF_Eff (v : Value) (l : List Eff) (c : FuncId) (cap : List Value) (p : Eff → Bool) (w : World) (hv : RowsAt w v 2 (l.map Eff.cs)) (hE : ∀ u ∈ l, EffOk w u) (hent : entB Try.prog c = true) (hl : l.length ≤ 9223372036854775807)
    (hclo : ∀ (u : Eff) (w1 : World), Below w.heap.size w w1 → EffOk w u → Calls Try.prog c ([.agg u.cs] ++ cap : List Value).toArray w1 fun e w2 => e = .returned (.bool (p u)) ∧ Below w1.heap.size w1 w2) :
    Calls Try.prog 33 ([v, .func (.func c) #[] cap.toArray] : List Value).toArray w fun e w' => e = .returned (.int .i64 (idxI p l)) ∧ Below w.heap.size w w' := by
  have hB := Below.refl w.heap.size w
  refine At.enter (N := 19) Try.func33 rfl rfl (by simp) [(0, v), (1, .func (.func c) #[] cap.toArray)] (by simp) ?_
  refine At.seq ?_
  refine At.region ?_
  refine At.assign rfl rfl ?_
  refine At.ops0 ?_
  refine At.thenN ?_
  refine At.seq ?_
  refine At.seq ?_
  refine At.region ?_
  refine At.move rfl rfl ?_
  refine At.lenSl rfl hv.okL el22 rfl ?_
  refine At.move rfl rfl ?_
  refine At.ops0 ?_
  refine At.thenN ?_
  refine At.block ?_
  refine At.loop (Nat) (fun k => [(0, v), (1, .func (.func c) #[] cap.toArray), (7, .int .i64 (l.length : Int)), (8, .int .i64 (k : Int))]) (fun k w1 => Below w.heap.size w w1 ∧ (k ≤ l.length) ∧ (∀ i x, i < k → l[i]? = some x → p x = false)) (fun k => l.length - k) (0 : Nat) (Sub.cons rfl (Sub.cons rfl (Sub.cons rfl (Sub.cons rfl Sub.nil)))) ⟨hB, (Nat.zero_le _), (fun j x hj => absurd hj (Nat.not_lt_zero j))⟩ (fun k w1 hI => ?_)
  clear hB
  obtain ⟨hB, hk, hn⟩ := hI
  show At _ _ [(0, v), (1, .func (.func c) #[] cap.toArray), (7, .int .i64 (l.length : Int)), (8, .int .i64 (k : Int))] _ _
  refine At.seq ?_
  refine At.region ?_
  refine At.lss rfl rfl rfl ?_
  refine At.ops0 ?_
  refine At.thenN ?_
  refine At.seq ?_
  refine At.cond (b := decide ((k : Int) < (l.length : Int))) rfl (fun hc1 => ?_) (fun hc1 => ?_)
  · skip
    have hc1' := of_decide_eq_true hc1
    refine At.skip ?_
    refine At.thenN ?_
    refine At.seq ?_
    refine At.block ?_
    refine At.seq ?_
    refine At.region ?_
    refine At.move rfl rfl ?_
    refine At.assign rfl rfl ?_
    refine At.ops0 ?_
    refine At.thenN ?_
    refine At.seq ?_
    refine At.region ?_
    refine At.move rfl rfl ?_
    refine At.move rfl rfl ?_
    refine At.move rfl rfl ?_
    obtain ⟨u1, hu1⟩ := some_of_lt (l := l) (i := k) (by omega)
    refine At.indexAddr (i := k) rfl rfl hv.okL (lt_of_some hu1) el22 sz43 rfl ?_
    refine At.load rfl (Ld.row ag43 (sz43.trans (congrArg some ((hE u1 (List.mem_of_getElem? hu1))).size.symm)) (((hv).row hu1).keep hB)) rfl ?_
    refine At.callV rfl hent rfl rfl (hclo u1 _ hB (hE u1 (List.mem_of_getElem? hu1))) (fun e w2 hR => ?_)
    obtain ⟨rfl, hbl1⟩ := hR
    refine ⟨_, rfl, ?_⟩
    replace hB := Below.andThen hB hbl1
    refine At.ops0 ?_
    refine At.thenN ?_
    refine At.cond (b := (p u1)) rfl (fun hc2 => ?_) (fun hc2 => ?_)
    · skip
      refine At.seq ?_
      refine At.region ?_
      refine At.move rfl rfl ?_
      refine At.assign rfl rfl ?_
      refine At.ops0 ?_
      refine At.thenN ?_
      refine At.retc ?_
      refine At.inR ?_
      refine At.thenR ?_
      refine At.thenR ?_
      refine At.inR ?_
      refine At.thenR ?_
      refine At.doneR (ResV.tmp rfl ResV.nil) ?_
      exact ⟨congrArg Ending.returned (congrArg (Value.int .i64) (idxI_yes hu1 hc2 hn).symm), hB⟩
    · skip
      refine At.skip ?_
      refine At.inN ?_
      refine At.thenN ?_
      refine At.region ?_
      refine At.addI rfl rfl rfl (by omega) ?_
      refine At.move rfl rfl ?_
      refine At.ops0 ?_
      refine At.thenN ?_
      exact fun a ha => ⟨(k + 1), ha.sub (Sub.cons rfl (Sub.cons rfl (Sub.cons rfl (Sub.cons rfl Sub.nil)))), ⟨hB, (by omega), (next_no hn hu1 hc2)⟩, by first | omega | (dsimp only; omega)⟩
  · skip
    have hc1' := of_decide_eq_false hc1
    refine At.exit ?_
    refine At.thenE ?_
    refine At.thenE ?_
    refine At.inE ?_
    refine At.thenN ?_
    refine At.seq ?_
    refine At.region ?_
    refine At.assign rfl rfl ?_
    refine At.ops0 ?_
    refine At.thenN ?_
    refine At.retc ?_
    refine At.doneR (ResV.tmp rfl ResV.nil) ?_
    exact ⟨congrArg Ending.returned (congrArg (Value.int .i64) (idxI_no (by omega) hn).symm), hB⟩
theorem clo_Eff (u : Eff) (b0 : Nat) (s : ByteArray) (w : World) (hu : EffOk w u) (hb0 : w.heap[b0]? = some (.cells #[.string s] 9)) :
    Calls Try.prog 34 ([.agg u.cs, .pointer (some ⟨b0, 0, none⟩)] : List Value).toArray w fun e w' => e = .returned (.bool (effIs s u)) ∧ Below w.heap.size w w' := by
  have hB := Below.refl w.heap.size w
  refine At.enter (N := 8) Try.func34 rfl rfl (by simp) [(0, .agg u.cs), (1, .pointer (some ⟨b0, 0, none⟩))] (by simp) ?_
  refine At.seq ?_
  refine At.region ?_
  refine At.box rfl rfl (fun b1 w1 F1 => ?_)
  have n_b0_b1 : b0 ≠ b1 := Nat.ne_of_lt (F1.lt hb0)
  have gb1 := F1.ge hB
  replace hb0 := F1.old hb0
  have hb1 : w1.heap[b1]? = some (.cells u.cs 43) := F1.new
  replace hB := F1.below' hB
  refine At.assign rfl rfl ?_
  refine At.ops0 ?_
  refine At.thenN ?_
  refine At.seq ?_
  refine At.region ?_
  refine At.fieldAddr rfl fo43_0 rfl ?_
  refine At.load rfl (Ld.ownCell ag9 hb1 (hu).c0) rfl ?_
  refine At.load rfl (Ld.ownCell ag9 hb0 rfl) rfl ?_
  refine At.eqS rfl rfl rfl ?_
  refine At.assign rfl rfl ?_
  refine At.ops0 ?_
  refine At.thenN ?_
  refine At.retc ?_
  refine At.doneR (ResV.tmp rfl ResV.nil) ?_
  exact ⟨rfl, hB⟩
theorem indexF_Cn (v : Value) (l : List Cn) (c : FuncId) (cap : List Value) (p : Cn → Bool) (w : World) (hv : RowsAt w v 2 (l.map Cn.cs)) (hE : ∀ u ∈ l, CnOk w u) (hent : entB Try.prog c = true) (hl : l.length ≤ 9223372036854775807)
    (hclo : ∀ (u : Cn) (w1 : World), Below w.heap.size w w1 → CnOk w u → Calls Try.prog c ([.agg u.cs] ++ cap : List Value).toArray w1 fun e w2 => e = .returned (.bool (p u)) ∧ Below w1.heap.size w1 w2) :
    Calls Try.prog 35 ([v, .func (.func c) #[] cap.toArray] : List Value).toArray w fun e w' => e = .returned (.int .i64 (idxI p l)) ∧ Below w.heap.size w w' := by
  have hB := Below.refl w.heap.size w
  refine At.enter (N := 19) Try.func35 rfl rfl (by simp) [(0, v), (1, .func (.func c) #[] cap.toArray)] (by simp) ?_
  refine At.seq ?_
  refine At.region ?_
  refine At.assign rfl rfl ?_
  refine At.ops0 ?_
  refine At.thenN ?_
  refine At.seq ?_
  refine At.seq ?_
  refine At.region ?_
  refine At.move rfl rfl ?_
  refine At.lenSl rfl hv.okL el50 rfl ?_
  refine At.move rfl rfl ?_
  refine At.ops0 ?_
  refine At.thenN ?_
  refine At.block ?_
  refine At.loop (Nat) (fun k => [(0, v), (1, .func (.func c) #[] cap.toArray), (7, .int .i64 (l.length : Int)), (8, .int .i64 (k : Int))]) (fun k w1 => Below w.heap.size w w1 ∧ (k ≤ l.length) ∧ (∀ i x, i < k → l[i]? = some x → p x = false)) (fun k => l.length - k) (0 : Nat) (Sub.cons rfl (Sub.cons rfl (Sub.cons rfl (Sub.cons rfl Sub.nil)))) ⟨hB, (Nat.zero_le _), (fun j x hj => absurd hj (Nat.not_lt_zero j))⟩ (fun k w1 hI => ?_)
  clear hB
  obtain ⟨hB, hk, hn⟩ := hI
  show At _ _ [(0, v), (1, .func (.func c) #[] cap.toArray), (7, .int .i64 (l.length : Int)), (8, .int .i64 (k : Int))] _ _
  refine At.seq ?_
  refine At.region ?_
  refine At.lss rfl rfl rfl ?_
  refine At.ops0 ?_
  refine At.thenN ?_
  refine At.seq ?_
  refine At.cond (b := decide ((k : Int) < (l.length : Int))) rfl (fun hc1 => ?_) (fun hc1 => ?_)
  · skip
    have hc1' := of_decide_eq_true hc1
    refine At.skip ?_
    refine At.thenN ?_
    refine At.seq ?_
    refine At.block ?_
    refine At.seq ?_
    refine At.region ?_
    refine At.move rfl rfl ?_
    refine At.assign rfl rfl ?_
    refine At.ops0 ?_
    refine At.thenN ?_
    refine At.seq ?_
    refine At.region ?_
    refine At.move rfl rfl ?_
    refine At.move rfl rfl ?_
    refine At.move rfl rfl ?_
    obtain ⟨u1, hu1⟩ := some_of_lt (l := l) (i := k) (by omega)
    refine At.indexAddr (i := k) rfl rfl hv.okL (lt_of_some hu1) el50 sz54 rfl ?_
    refine At.load rfl (Ld.row ag54 (sz54.trans (congrArg some ((hE u1 (List.mem_of_getElem? hu1))).size.symm)) (((hv).row hu1).keep hB)) rfl ?_
    refine At.callV rfl hent rfl rfl (hclo u1 _ hB (hE u1 (List.mem_of_getElem? hu1))) (fun e w2 hR => ?_)
    obtain ⟨rfl, hbl1⟩ := hR
    refine ⟨_, rfl, ?_⟩
    replace hB := Below.andThen hB hbl1
    refine At.ops0 ?_
    refine At.thenN ?_
    refine At.cond (b := (p u1)) rfl (fun hc2 => ?_) (fun hc2 => ?_)
    · skip
      refine At.seq ?_
      refine At.region ?_
      refine At.move rfl rfl ?_
      refine At.assign rfl rfl ?_
      refine At.ops0 ?_
      refine At.thenN ?_
      refine At.retc ?_
      refine At.inR ?_
      refine At.thenR ?_
      refine At.thenR ?_
      refine At.inR ?_
      refine At.thenR ?_
      refine At.doneR (ResV.tmp rfl ResV.nil) ?_
      exact ⟨congrArg Ending.returned (congrArg (Value.int .i64) (idxI_yes hu1 hc2 hn).symm), hB⟩
    · skip
      refine At.skip ?_
      refine At.inN ?_
      refine At.thenN ?_
      refine At.region ?_
      refine At.addI rfl rfl rfl (by omega) ?_
      refine At.move rfl rfl ?_
      refine At.ops0 ?_
      refine At.thenN ?_
      exact fun a ha => ⟨(k + 1), ha.sub (Sub.cons rfl (Sub.cons rfl (Sub.cons rfl (Sub.cons rfl Sub.nil)))), ⟨hB, (by omega), (next_no hn hu1 hc2)⟩, by first | omega | (dsimp only; omega)⟩
  · skip
    have hc1' := of_decide_eq_false hc1
    refine At.exit ?_
    refine At.thenE ?_
    refine At.thenE ?_
    refine At.inE ?_
    refine At.thenN ?_
    refine At.seq ?_
    refine At.region ?_
    refine At.assign rfl rfl ?_
    refine At.ops0 ?_
    refine At.thenN ?_
    refine At.retc ?_
    refine At.doneR (ResV.tmp rfl ResV.nil) ?_
    exact ⟨congrArg Ending.returned (congrArg (Value.int .i64) (idxI_no (by omega) hn).symm), hB⟩
theorem clo_Cn (u : Cn) (b0 : Nat) (s : ByteArray) (w : World) (hu : CnOk w u) (hb0 : w.heap[b0]? = some (.cells #[.string s] 9)) :
    Calls Try.prog 36 ([.agg u.cs, .pointer (some ⟨b0, 0, none⟩)] : List Value).toArray w fun e w' => e = .returned (.bool (cnIs s u)) ∧ Below w.heap.size w w' := by
  have hB := Below.refl w.heap.size w
  refine At.enter (N := 8) Try.func36 rfl rfl (by simp) [(0, .agg u.cs), (1, .pointer (some ⟨b0, 0, none⟩))] (by simp) ?_
  refine At.seq ?_
  refine At.region ?_
  refine At.box rfl rfl (fun b1 w1 F1 => ?_)
  have n_b0_b1 : b0 ≠ b1 := Nat.ne_of_lt (F1.lt hb0)
  have gb1 := F1.ge hB
  replace hb0 := F1.old hb0
  have hb1 : w1.heap[b1]? = some (.cells u.cs 54) := F1.new
  replace hB := F1.below' hB
  refine At.assign rfl rfl ?_
  refine At.ops0 ?_
  refine At.thenN ?_
  refine At.seq ?_
  refine At.region ?_
  refine At.fieldAddr rfl fo54_0 rfl ?_
  refine At.load rfl (Ld.ownCell ag9 hb1 (hu).c0) rfl ?_
  refine At.load rfl (Ld.ownCell ag9 hb0 rfl) rfl ?_
  refine At.eqS rfl rfl rfl ?_
  refine At.assign rfl rfl ?_
  refine At.ops0 ?_
  refine At.thenN ?_
  refine At.retc ?_
  refine At.doneR (ResV.tmp rfl ResV.nil) ?_
  exact ⟨rfl, hB⟩
theorem indexF_Dat (v : Value) (l : List Dat) (c : FuncId) (cap : List Value) (p : Dat → Bool) (w : World) (hv : RowsAt w v 2 (l.map Dat.cs)) (hE : ∀ u ∈ l, DatOk w u) (hent : entB Try.prog c = true) (hl : l.length ≤ 9223372036854775807)
    (hclo : ∀ (u : Dat) (w1 : World), Below w.heap.size w w1 → DatOk w u → Calls Try.prog c ([.agg u.cs] ++ cap : List Value).toArray w1 fun e w2 => e = .returned (.bool (p u)) ∧ Below w1.heap.size w1 w2) :
    Calls Try.prog 60 ([v, .func (.func c) #[] cap.toArray] : List Value).toArray w fun e w' => e = .returned (.int .i64 (idxI p l)) ∧ Below w.heap.size w w' := by
  have hB := Below.refl w.heap.size w
  refine At.enter (N := 19) Try.func60 rfl rfl (by simp) [(0, v), (1, .func (.func c) #[] cap.toArray)] (by simp) ?_
  refine At.seq ?_
  refine At.region ?_
  refine At.assign rfl rfl ?_
  refine At.ops0 ?_
  refine At.thenN ?_
  refine At.seq ?_
  refine At.seq ?_
  refine At.region ?_
  refine At.move rfl rfl ?_
  refine At.lenSl rfl hv.okL el23 rfl ?_
  refine At.move rfl rfl ?_
  refine At.ops0 ?_
  refine At.thenN ?_
  refine At.block ?_
  refine At.loop (Nat) (fun k => [(0, v), (1, .func (.func c) #[] cap.toArray), (7, .int .i64 (l.length : Int)), (8, .int .i64 (k : Int))]) (fun k w1 => Below w.heap.size w w1 ∧ (k ≤ l.length) ∧ (∀ i x, i < k → l[i]? = some x → p x = false)) (fun k => l.length - k) (0 : Nat) (Sub.cons rfl (Sub.cons rfl (Sub.cons rfl (Sub.cons rfl Sub.nil)))) ⟨hB, (Nat.zero_le _), (fun j x hj => absurd hj (Nat.not_lt_zero j))⟩ (fun k w1 hI => ?_)
  clear hB
  obtain ⟨hB, hk, hn⟩ := hI
  show At _ _ [(0, v), (1, .func (.func c) #[] cap.toArray), (7, .int .i64 (l.length : Int)), (8, .int .i64 (k : Int))] _ _
  refine At.seq ?_
  refine At.region ?_
  refine At.lss rfl rfl rfl ?_
  refine At.ops0 ?_
  refine At.thenN ?_
  refine At.seq ?_
  refine At.cond (b := decide ((k : Int) < (l.length : Int))) rfl (fun hc1 => ?_) (fun hc1 => ?_)
  · skip
    have hc1' := of_decide_eq_true hc1
    refine At.skip ?_
    refine At.thenN ?_
    refine At.seq ?_
    refine At.block ?_
    refine At.seq ?_
    refine At.region ?_
    refine At.move rfl rfl ?_
    refine At.assign rfl rfl ?_
    refine At.ops0 ?_
    refine At.thenN ?_
    refine At.seq ?_
    refine At.region ?_
    refine At.move rfl rfl ?_
    refine At.move rfl rfl ?_
    refine At.move rfl rfl ?_
    obtain ⟨u1, hu1⟩ := some_of_lt (l := l) (i := k) (by omega)
    refine At.indexAddr (i := k) rfl rfl hv.okL (lt_of_some hu1) el23 sz52 rfl ?_
    refine At.load rfl (Ld.row ag52 (sz52.trans (congrArg some ((hE u1 (List.mem_of_getElem? hu1))).size.symm)) (((hv).row hu1).keep hB)) rfl ?_
    refine At.callV rfl hent rfl rfl (hclo u1 _ hB (hE u1 (List.mem_of_getElem? hu1))) (fun e w2 hR => ?_)
    obtain ⟨rfl, hbl1⟩ := hR
    refine ⟨_, rfl, ?_⟩
    replace hB := Below.andThen hB hbl1
    refine At.ops0 ?_
    refine At.thenN ?_
    refine At.cond (b := (p u1)) rfl (fun hc2 => ?_) (fun hc2 => ?_)
    · skip
      refine At.seq ?_
      refine At.region ?_
      refine At.move rfl rfl ?_
      refine At.assign rfl rfl ?_
      refine At.ops0 ?_
      refine At.thenN ?_
      refine At.retc ?_
      refine At.inR ?_
      refine At.thenR ?_
      refine At.thenR ?_
      refine At.inR ?_
      refine At.thenR ?_
      refine At.doneR (ResV.tmp rfl ResV.nil) ?_
      exact ⟨congrArg Ending.returned (congrArg (Value.int .i64) (idxI_yes hu1 hc2 hn).symm), hB⟩
    · skip
      refine At.skip ?_
      refine At.inN ?_
      refine At.thenN ?_
      refine At.region ?_
      refine At.addI rfl rfl rfl (by omega) ?_
      refine At.move rfl rfl ?_
      refine At.ops0 ?_
      refine At.thenN ?_
      exact fun a ha => ⟨(k + 1), ha.sub (Sub.cons rfl (Sub.cons rfl (Sub.cons rfl (Sub.cons rfl Sub.nil)))), ⟨hB, (by omega), (next_no hn hu1 hc2)⟩, by first | omega | (dsimp only; omega)⟩
  · skip
    have hc1' := of_decide_eq_false hc1
    refine At.exit ?_
    refine At.thenE ?_
    refine At.thenE ?_
    refine At.inE ?_
    refine At.thenN ?_
    refine At.seq ?_
    refine At.region ?_
    refine At.assign rfl rfl ?_
    refine At.ops0 ?_
    refine At.thenN ?_
    refine At.retc ?_
    refine At.doneR (ResV.tmp rfl ResV.nil) ?_
    exact ⟨congrArg Ending.returned (congrArg (Value.int .i64) (idxI_no (by omega) hn).symm), hB⟩
theorem effect_any (p : Pr) (s : ByteArray) (w : World) (hp : PrOk w p) (hl : p.effs.length ≤ 9223372036854775807 ∧ p.dats.length ≤ 9223372036854775807) (ho : ∀ e ∈ p.effs, e.ops.length ≤ 9223372036854775807) (hc : ∀ d ∈ p.dats, d.cons.length ≤ 9223372036854775807) :
    Calls Try.prog 14 ([.agg p.cs, .string s] : List Value).toArray w fun e w' => e = .returned (effV (findEff p.effs s)) ∧ Below w.heap.size w w' := by
  have hB := Below.refl w.heap.size w
  refine At.enter (N := 32) Try.func14 rfl rfl (by simp) [(0, .agg p.cs), (1, .string s)] (by simp) ?_
  refine At.seq ?_
  refine At.region ?_
  refine At.box rfl rfl (fun b1 w1 F1 => ?_)
  have gb1 := F1.ge hB
  have hb1 : w1.heap[b1]? = some (.cells p.cs 35) := F1.new
  replace hB := F1.below' hB
  refine At.box rfl rfl (fun b2 w2 F2 => ?_)
  have n_b1_b2 : b1 ≠ b2 := Nat.ne_of_lt (F2.lt hb1)
  have gb2 := F2.ge hB
  replace hb1 := F2.old hb1
  have hb2 : w2.heap[b2]? = some (.cells #[.string s] 9) := F2.new
  replace hB := F2.below' hB
  refine At.alloc ze43 rfl (fun b3 w3 F3 => ?_)
  have n_b1_b3 : b1 ≠ b3 := Nat.ne_of_lt (F3.lt hb1)
  have n_b2_b3 : b2 ≠ b3 := Nat.ne_of_lt (F3.lt hb2)
  have gb3 := F3.ge hB
  replace hb1 := F3.old hb1
  replace hb2 := F3.old hb2
  have hb3 : w3.heap[b3]? = some (.cells #[.string (⟨#[]⟩ : ByteArray), (.slice none 0 0)] 43) := F3.new
  replace hB := F3.below' hB
  refine At.alloc ze45 rfl (fun b4 w4 F4 => ?_)
  have n_b1_b4 : b1 ≠ b4 := Nat.ne_of_lt (F4.lt hb1)
  have n_b2_b4 : b2 ≠ b4 := Nat.ne_of_lt (F4.lt hb2)
  have n_b3_b4 : b3 ≠ b4 := Nat.ne_of_lt (F4.lt hb3)
  have gb4 := F4.ge hB
  replace hb1 := F4.old hb1
  replace hb2 := F4.old hb2
  replace hb3 := F4.old hb3
  have hb4 : w4.heap[b4]? = some (.cells #[.string (⟨#[]⟩ : ByteArray), .int .i64 0, .string (⟨#[]⟩ : ByteArray), .int .i64 0, (.slice none 0 0), (.slice none 0 0), .int .i64 0, .int .i64 0, .string (⟨#[]⟩ : ByteArray), .int .i64 0, (.slice none 0 0), (.slice none 0 0), .int .i64 0] 45) := F4.new
  replace hB := F4.below' hB
  refine At.assign rfl rfl ?_
  refine At.ops0 ?_
  refine At.thenN ?_
  refine At.seq ?_
  refine At.seq ?_
  refine At.region ?_
  refine At.fieldAddr rfl fo35_0 rfl ?_
  refine At.load rfl (Ld.ownCell ag22 hb1 (hp).c0) rfl ?_
  refine At.lenSl rfl ((hp).effsAt).okL el22 rfl ?_
  refine At.move rfl rfl ?_
  refine At.ops0 ?_
  refine At.thenN ?_
  refine At.block ?_
  refine At.loop (Nat) (fun k => [(3, .pointer (some ⟨b2, 0, none⟩)), (4, .pointer (some ⟨b3, 0, none⟩)), (5, .pointer (some ⟨b4, 0, none⟩)), (11, p.ev), (12, .int .i64 (p.effs.length : Int)), (13, .int .i64 (k : Int))]) (fun k w5 => Below w.heap.size w w5 ∧ w5.heap[b2]? = some (.cells #[.string s] 9) ∧ w5.heap[b3]? = some (.cells #[.string (⟨#[]⟩ : ByteArray), (.slice none 0 0)] 43) ∧ w5.heap[b4]? = some (.cells #[.string (⟨#[]⟩ : ByteArray), .int .i64 0, .string (⟨#[]⟩ : ByteArray), .int .i64 0, (.slice none 0 0), (.slice none 0 0), .int .i64 0, .int .i64 0, .string (⟨#[]⟩ : ByteArray), .int .i64 0, (.slice none 0 0), (.slice none 0 0), .int .i64 0] 45) ∧ (k ≤ p.effs.length) ∧ (∀ i x, i < k → p.effs[i]? = some x → opIn s x = none)) (fun k => p.effs.length - k) (0 : Nat) (Sub.cons rfl (Sub.cons rfl (Sub.cons rfl (Sub.cons rfl (Sub.cons rfl (Sub.cons rfl Sub.nil)))))) ⟨hB, hb2, hb3, hb4, (Nat.zero_le _), (fun j x hj => absurd hj (Nat.not_lt_zero j))⟩ (fun k w5 hI => ?_)
  clear hB hb1 hb2 hb3 hb4
  obtain ⟨hB, hb2, hb3, hb4, hk, hn⟩ := hI
  show At _ _ [(3, .pointer (some ⟨b2, 0, none⟩)), (4, .pointer (some ⟨b3, 0, none⟩)), (5, .pointer (some ⟨b4, 0, none⟩)), (11, p.ev), (12, .int .i64 (p.effs.length : Int)), (13, .int .i64 (k : Int))] _ _
  have hlk := hl
  refine At.seq ?_
  refine At.region ?_
  refine At.lss rfl rfl rfl ?_
  refine At.ops0 ?_
  refine At.thenN ?_
  refine At.seq ?_
  refine At.cond (b := decide ((k : Int) < (p.effs.length : Int))) rfl (fun hc1 => ?_) (fun hc1 => ?_)
  · skip
    have hc1' := of_decide_eq_true hc1
    refine At.skip ?_
    refine At.thenN ?_
    refine At.seq ?_
    refine At.block ?_
    refine At.seq ?_
    refine At.region ?_
    obtain ⟨u1, hu1⟩ := some_of_lt (l := p.effs) (i := k) (by omega)
    refine At.indexAddr (i := k) rfl rfl ((hp).effsAt).okL (lt_of_some hu1) el22 sz43 rfl ?_
    refine At.load rfl (Ld.row ag43 (sz43.trans (congrArg some (((hp).eff hu1)).size.symm)) ((((hp).effsAt).row hu1).keep hB)) rfl ?_
    refine At.alloc ze43 rfl (fun b5 w6 F5 => ?_)
    have n_b2_b5 : b2 ≠ b5 := Nat.ne_of_lt (F5.lt hb2)
    have n_b3_b5 : b3 ≠ b5 := Nat.ne_of_lt (F5.lt hb3)
    have n_b4_b5 : b4 ≠ b5 := Nat.ne_of_lt (F5.lt hb4)
    have gb5 := F5.ge hB
    replace hb2 := F5.old hb2
    replace hb3 := F5.old hb3
    replace hb4 := F5.old hb4
    have hb5 : w6.heap[b5]? = some (.cells #[.string (⟨#[]⟩ : ByteArray), (.slice none 0 0)] 43) := F5.new
    replace hB := F5.below' hB
    refine At.storeAll rfl rfl hb5 (sz43.trans (congrArg some (((hp).eff hu1)).size.symm)) (((hp).eff hu1)).size.symm (((hp).eff hu1)).one (fun w7 S1 => ?_)
    replace hb2 := S1.other hb2 n_b2_b5
    replace hb3 := S1.other hb3 n_b3_b5
    replace hb4 := S1.other hb4 n_b4_b5
    replace hb5 : w7.heap[b5]? = some (.cells u1.cs 43) := S1.new
    replace hB := S1.below' hB gb5
    refine At.ops0 ?_
    refine At.thenN ?_
    refine At.seq ?_
    refine At.region ?_
    refine At.fieldAddr rfl fo43_1 rfl ?_
    refine At.load rfl (Ld.ownCell ag41 hb5 (((hp).eff hu1)).c1) rfl ?_
    refine At.makeFunc rfl rfl ?_
    have hlo := ho u1 (List.mem_of_getElem? hu1)
    refine At.call en31 rfl rfl (indexF_Op u1.ov u1.ops 32 [.pointer (some ⟨b2, 0, none⟩)] (opIs s) _ (((((hp).eff hu1)).opsAt).keep hB) ((((hp).eff hu1)).opOk) en32 (by assumption) (fun u w1 hw hu => clo_Op u b2 s w1 (hu) (Below.old hw hb2))) (fun e w8 hR => ?_)
    obtain ⟨rfl, hbl1⟩ := hR
    refine ⟨_, rfl, ?_⟩
    replace hb2 := Below.old hbl1 hb2
    replace hb3 := Below.old hbl1 hb3
    replace hb4 := Below.old hbl1 hb4
    replace hb5 := Below.old hbl1 hb5
    replace hB := Below.andThen hB hbl1
    refine At.assign rfl rfl ?_
    refine At.ops0 ?_
    refine At.thenN ?_
    refine At.seq ?_
    refine At.region ?_
    refine At.move rfl rfl ?_
    refine At.geq rfl rfl rfl ?_
    refine At.ops0 ?_
    refine At.thenN ?_
    refine At.cond (b := decide (0 ≤ (idxI (opIs s) u1.ops))) rfl (fun hc2 => ?_) (fun hc2 => ?_)
    · skip
      have hc2' := of_decide_eq_true hc2
      refine At.seq ?_
      obtain ⟨i1, uf, hei, huf, hff⟩ := idxI_find (p := opIs s) (l := u1.ops) (by assumption)
      refine At.set (d := 9) (u := .int .i64 (i1 : Int)) rfl (congrArg (Value.int .i64) hei) ?_
      refine At.draw mixed [(4, .pointer (some ⟨b3, 0, none⟩)), (5, .pointer (some ⟨b4, 0, none⟩)), (8, .pointer (some ⟨b5, 0, none⟩)), (9, .int .i64 (i1 : Int))] (Sub.cons rfl (Sub.cons rfl (Sub.cons rfl (Sub.cons rfl Sub.nil)))) rfl (RS ([(b3, .cells u1.cs 43), (b4, .cells uf.cs 45)] : List (Nat × Obj))) (dF [.c (.agg u1.cs), .c (.pointer (some ⟨b5, 0 + 1, none⟩)), .c (u1.ov), .c (.int .i64 (i1 : Int)), .c (.pointer (some ⟨vBlock u1.ov, vOff u1.ov + i1 * 13, none⟩)), .c (.agg uf.cs), .s b3 (.cells u1.cs 43), .s b4 (.cells uf.cs 45), .c (.bool true)]) (RS.drew _ _) RS.trans (dF.stab (by simp)) ⟨?_, ?_, ?_, ?_, ?_, ?_, ?_, ?_, ?_, trivial⟩ (fun vals w' hRS hf => ?_)
      · intro vals Lx w1 hRS hpre
        have hB := RS.below hRS hB (by intro p hp; simp only [List.mem_cons, List.not_mem_nil, or_false] at hp; rcases hp with rfl | rfl <;> assumption)
        have hb2 := hRS.old _ _ (by intro p hp; simp only [List.mem_cons, List.not_mem_nil, or_false] at hp; rcases hp with rfl | rfl; exact n_b2_b3; exact n_b2_b4) hb2
        have hb5 := hRS.old _ _ (by intro p hp; simp only [List.mem_cons, List.not_mem_nil, or_false] at hp; rcases hp with rfl | rfl; exact n_b3_b5.symm; exact n_b4_b5.symm) hb5
        obtain ⟨c_b3, hb3, z_b3⟩ := hRS.shape (b3, .cells u1.cs 43) (by simp) _ _ hb3
        obtain ⟨c_b4, hb4, z_b4⟩ := hRS.shape (b4, .cells uf.cs 45) (by simp) _ _ hb4
        refine At.load rfl (Ld.own ag43 (sz43.trans (congrArg some (((hp).eff hu1)).size.symm)) hb5) rfl ?_
        refine At.ops0 ?_
        exact fun a ha => ⟨_, ha, RS.refl _ _, rfl⟩
      · intro vals Lx w1 hRS hpre
        have hB := RS.below hRS hB (by intro p hp; simp only [List.mem_cons, List.not_mem_nil, or_false] at hp; rcases hp with rfl | rfl <;> assumption)
        have hb2 := hRS.old _ _ (by intro p hp; simp only [List.mem_cons, List.not_mem_nil, or_false] at hp; rcases hp with rfl | rfl; exact n_b2_b3; exact n_b2_b4) hb2
        have hb5 := hRS.old _ _ (by intro p hp; simp only [List.mem_cons, List.not_mem_nil, or_false] at hp; rcases hp with rfl | rfl; exact n_b3_b5.symm; exact n_b4_b5.symm) hb5
        obtain ⟨c_b3, hb3, z_b3⟩ := hRS.shape (b3, .cells u1.cs 43) (by simp) _ _ hb3
        obtain ⟨c_b4, hb4, z_b4⟩ := hRS.shape (b4, .cells uf.cs 45) (by simp) _ _ hb4
        refine At.fieldAddr rfl fo43_1 rfl ?_
        refine At.ops0 ?_
        exact fun a ha => ⟨_, ha, RS.refl _ _, rfl⟩
      · intro vals Lx w1 hRS hpre
        have hB := RS.below hRS hB (by intro p hp; simp only [List.mem_cons, List.not_mem_nil, or_false] at hp; rcases hp with rfl | rfl <;> assumption)
        have hb2 := hRS.old _ _ (by intro p hp; simp only [List.mem_cons, List.not_mem_nil, or_false] at hp; rcases hp with rfl | rfl; exact n_b2_b3; exact n_b2_b4) hb2
        have hb5 := hRS.old _ _ (by intro p hp; simp only [List.mem_cons, List.not_mem_nil, or_false] at hp; rcases hp with rfl | rfl; exact n_b3_b5.symm; exact n_b4_b5.symm) hb5
        obtain ⟨c_b3, hb3, z_b3⟩ := hRS.shape (b3, .cells u1.cs 43) (by simp) _ _ hb3
        obtain ⟨c_b4, hb4, z_b4⟩ := hRS.shape (b4, .cells uf.cs 45) (by simp) _ _ hb4
        have p1 : vals 1 = .pointer (some ⟨b5, 0 + 1, none⟩) := hpre 1 (by decide)
        refine At.set (d := 24) (v := vals 1) rfl p1 ?_
        refine At.load rfl (Ld.ownCell ag41 hb5 (((hp).eff hu1)).c1) rfl ?_
        refine At.ops0 ?_
        exact fun a ha => ⟨_, (ha).drop2 (congrArg some p1), RS.refl _ _, rfl⟩
      · intro vals Lx w1 hRS hpre
        have hB := RS.below hRS hB (by intro p hp; simp only [List.mem_cons, List.not_mem_nil, or_false] at hp; rcases hp with rfl | rfl <;> assumption)
        have hb2 := hRS.old _ _ (by intro p hp; simp only [List.mem_cons, List.not_mem_nil, or_false] at hp; rcases hp with rfl | rfl; exact n_b2_b3; exact n_b2_b4) hb2
        have hb5 := hRS.old _ _ (by intro p hp; simp only [List.mem_cons, List.not_mem_nil, or_false] at hp; rcases hp with rfl | rfl; exact n_b3_b5.symm; exact n_b4_b5.symm) hb5
        obtain ⟨c_b3, hb3, z_b3⟩ := hRS.shape (b3, .cells u1.cs 43) (by simp) _ _ hb3
        obtain ⟨c_b4, hb4, z_b4⟩ := hRS.shape (b4, .cells uf.cs 45) (by simp) _ _ hb4
        refine At.move rfl rfl ?_
        refine At.ops0 ?_
        exact fun a ha => ⟨_, ha, RS.refl _ _, rfl⟩
      · intro vals Lx w1 hRS hpre
        have hB := RS.below hRS hB (by intro p hp; simp only [List.mem_cons, List.not_mem_nil, or_false] at hp; rcases hp with rfl | rfl <;> assumption)
        have hb2 := hRS.old _ _ (by intro p hp; simp only [List.mem_cons, List.not_mem_nil, or_false] at hp; rcases hp with rfl | rfl; exact n_b2_b3; exact n_b2_b4) hb2
        have hb5 := hRS.old _ _ (by intro p hp; simp only [List.mem_cons, List.not_mem_nil, or_false] at hp; rcases hp with rfl | rfl; exact n_b3_b5.symm; exact n_b4_b5.symm) hb5
        obtain ⟨c_b3, hb3, z_b3⟩ := hRS.shape (b3, .cells u1.cs 43) (by simp) _ _ hb3
        obtain ⟨c_b4, hb4, z_b4⟩ := hRS.shape (b4, .cells uf.cs 45) (by simp) _ _ hb4
        have p2 : vals 2 = u1.ov := hpre 2 (by decide)
        refine At.set (d := 25) (v := vals 2) rfl p2 ?_
        have p3 : vals 3 = .int .i64 (i1 : Int) := hpre 3 (by decide)
        refine At.set (d := 26) (v := vals 3) rfl p3 ?_
        refine At.indexAddr (i := i1) rfl rfl ((((hp).eff hu1)).opsAt).okL (lt_of_some huf) el41 sz45 rfl ?_
        refine At.ops0 ?_
        exact fun a ha => ⟨_, ((ha).drop2 (congrArg some p3)).drop2 (congrArg some p2), RS.refl _ _, rfl⟩
      · intro vals Lx w1 hRS hpre
        have hB := RS.below hRS hB (by intro p hp; simp only [List.mem_cons, List.not_mem_nil, or_false] at hp; rcases hp with rfl | rfl <;> assumption)
        have hb2 := hRS.old _ _ (by intro p hp; simp only [List.mem_cons, List.not_mem_nil, or_false] at hp; rcases hp with rfl | rfl; exact n_b2_b3; exact n_b2_b4) hb2
        have hb5 := hRS.old _ _ (by intro p hp; simp only [List.mem_cons, List.not_mem_nil, or_false] at hp; rcases hp with rfl | rfl; exact n_b3_b5.symm; exact n_b4_b5.symm) hb5
        obtain ⟨c_b3, hb3, z_b3⟩ := hRS.shape (b3, .cells u1.cs 43) (by simp) _ _ hb3
        obtain ⟨c_b4, hb4, z_b4⟩ := hRS.shape (b4, .cells uf.cs 45) (by simp) _ _ hb4
        have p4 : vals 4 = .pointer (some ⟨vBlock u1.ov, vOff u1.ov + i1 * 13, none⟩) := hpre 4 (by decide)
        refine At.set (d := 27) (v := vals 4) rfl p4 ?_
        refine At.load rfl (Ld.row ag45 (sz45.trans (congrArg some (((((hp).eff hu1)).op huf)).size.symm)) ((((((hp).eff hu1)).opsAt).row huf).keep hB)) rfl ?_
        refine At.ops0 ?_
        exact fun a ha => ⟨_, (ha).drop2 (congrArg some p4), RS.refl _ _, rfl⟩
      · intro vals Lx w1 hRS hpre
        have hB := RS.below hRS hB (by intro p hp; simp only [List.mem_cons, List.not_mem_nil, or_false] at hp; rcases hp with rfl | rfl <;> assumption)
        have hb2 := hRS.old _ _ (by intro p hp; simp only [List.mem_cons, List.not_mem_nil, or_false] at hp; rcases hp with rfl | rfl; exact n_b2_b3; exact n_b2_b4) hb2
        have hb5 := hRS.old _ _ (by intro p hp; simp only [List.mem_cons, List.not_mem_nil, or_false] at hp; rcases hp with rfl | rfl; exact n_b3_b5.symm; exact n_b4_b5.symm) hb5
        obtain ⟨c_b3, hb3, z_b3⟩ := hRS.shape (b3, .cells u1.cs 43) (by simp) _ _ hb3
        obtain ⟨c_b4, hb4, z_b4⟩ := hRS.shape (b4, .cells uf.cs 45) (by simp) _ _ hb4
        have p0 : vals 0 = .agg u1.cs := hpre 0 (by decide)
        refine At.set (d := 23) (v := vals 0) rfl p0 ?_
        have hb3_old := hb3
        have z_b3_eq := ((z_b3.trans ((((hp).eff hu1)).size.symm))).symm
        refine At.storeAll rfl rfl hb3 (sz43.trans (congrArg some (((hp).eff hu1)).size.symm)) (z_b3.trans ((((hp).eff hu1)).size.symm)) (((hp).eff hu1)).one (fun w9 S2 => ?_)
        replace hb2 := S2.other hb2 n_b2_b3
        replace hb4 := S2.other hb4 n_b3_b4.symm
        replace hb5 := S2.other hb5 n_b3_b5.symm
        replace hb3 : w9.heap[b3]? = some (.cells u1.cs 43) := S2.new
        replace hB := S2.below' hB gb3
        refine At.ops0 ?_
        exact fun a ha => ⟨undef, (ha).drop1 (congrArg some p0), RS.of_set S2 (by simp) hb3_old (z_b3_eq) (by intro p hp e; simp only [List.mem_cons, List.not_mem_nil, or_false] at hp; rcases hp with rfl | rfl <;> first | rfl | (exfalso; revert e; assumption) | (exfalso; exact absurd e.symm (by assumption))), hb3⟩
      · intro vals Lx w1 hRS hpre
        have hB := RS.below hRS hB (by intro p hp; simp only [List.mem_cons, List.not_mem_nil, or_false] at hp; rcases hp with rfl | rfl <;> assumption)
        have hb2 := hRS.old _ _ (by intro p hp; simp only [List.mem_cons, List.not_mem_nil, or_false] at hp; rcases hp with rfl | rfl; exact n_b2_b3; exact n_b2_b4) hb2
        have hb5 := hRS.old _ _ (by intro p hp; simp only [List.mem_cons, List.not_mem_nil, or_false] at hp; rcases hp with rfl | rfl; exact n_b3_b5.symm; exact n_b4_b5.symm) hb5
        obtain ⟨c_b3, hb3, z_b3⟩ := hRS.shape (b3, .cells u1.cs 43) (by simp) _ _ hb3
        obtain ⟨c_b4, hb4, z_b4⟩ := hRS.shape (b4, .cells uf.cs 45) (by simp) _ _ hb4
        have p5 : vals 5 = .agg uf.cs := hpre 5 (by decide)
        refine At.set (d := 28) (v := vals 5) rfl p5 ?_
        have p0 : vals 0 = .agg u1.cs := hpre 0 (by decide)
        refine At.set (d := 23) (v := vals 0) rfl p0 ?_
        have p1 : vals 1 = .pointer (some ⟨b5, 0 + 1, none⟩) := hpre 1 (by decide)
        refine At.set (d := 24) (v := vals 1) rfl p1 ?_
        have p2 : vals 2 = u1.ov := hpre 2 (by decide)
        refine At.set (d := 25) (v := vals 2) rfl p2 ?_
        have p3 : vals 3 = .int .i64 (i1 : Int) := hpre 3 (by decide)
        refine At.set (d := 26) (v := vals 3) rfl p3 ?_
        have p4 : vals 4 = .pointer (some ⟨vBlock u1.ov, vOff u1.ov + i1 * 13, none⟩) := hpre 4 (by decide)
        refine At.set (d := 27) (v := vals 4) rfl p4 ?_
        have hb4_old := hb4
        have z_b4_eq := ((z_b4.trans ((((((hp).eff hu1)).op huf)).size.symm))).symm
        refine At.storeAll rfl rfl hb4 (sz45.trans (congrArg some (((((hp).eff hu1)).op huf)).size.symm)) (z_b4.trans ((((((hp).eff hu1)).op huf)).size.symm)) (((((hp).eff hu1)).op huf)).one (fun w10 S3 => ?_)
        replace hb2 := S3.other hb2 n_b2_b4
        replace hb3 := S3.other hb3 n_b3_b4
        replace hb5 := S3.other hb5 n_b4_b5.symm
        replace hb4 : w10.heap[b4]? = some (.cells uf.cs 45) := S3.new
        replace hB := S3.below' hB gb4
        refine At.ops0 ?_
        exact fun a ha => ⟨undef, ((((((ha).drop1 (congrArg some p4)).drop1 (congrArg some p3)).drop1 (congrArg some p2)).drop1 (congrArg some p1)).drop1 (congrArg some p0)).drop1 (congrArg some p5), RS.of_set S3 (by simp) hb4_old (z_b4_eq) (by intro p hp e; simp only [List.mem_cons, List.not_mem_nil, or_false] at hp; rcases hp with rfl | rfl <;> first | rfl | (exfalso; revert e; assumption) | (exfalso; exact absurd e.symm (by assumption))), hb4⟩
      · intro vals Lx w1 hRS hpre
        have hB := RS.below hRS hB (by intro p hp; simp only [List.mem_cons, List.not_mem_nil, or_false] at hp; rcases hp with rfl | rfl <;> assumption)
        have hb2 := hRS.old _ _ (by intro p hp; simp only [List.mem_cons, List.not_mem_nil, or_false] at hp; rcases hp with rfl | rfl; exact n_b2_b3; exact n_b2_b4) hb2
        have hb5 := hRS.old _ _ (by intro p hp; simp only [List.mem_cons, List.not_mem_nil, or_false] at hp; rcases hp with rfl | rfl; exact n_b3_b5.symm; exact n_b4_b5.symm) hb5
        obtain ⟨c_b3, hb3, z_b3⟩ := hRS.shape (b3, .cells u1.cs 43) (by simp) _ _ hb3
        obtain ⟨c_b4, hb4, z_b4⟩ := hRS.shape (b4, .cells uf.cs 45) (by simp) _ _ hb4
        have p0 : vals 0 = .agg u1.cs := hpre 0 (by decide)
        refine At.set (d := 23) (v := vals 0) rfl p0 ?_
        have p1 : vals 1 = .pointer (some ⟨b5, 0 + 1, none⟩) := hpre 1 (by decide)
        refine At.set (d := 24) (v := vals 1) rfl p1 ?_
        have p2 : vals 2 = u1.ov := hpre 2 (by decide)
        refine At.set (d := 25) (v := vals 2) rfl p2 ?_
        have p3 : vals 3 = .int .i64 (i1 : Int) := hpre 3 (by decide)
        refine At.set (d := 26) (v := vals 3) rfl p3 ?_
        have p4 : vals 4 = .pointer (some ⟨vBlock u1.ov, vOff u1.ov + i1 * 13, none⟩) := hpre 4 (by decide)
        refine At.set (d := 27) (v := vals 4) rfl p4 ?_
        have p5 : vals 5 = .agg uf.cs := hpre 5 (by decide)
        refine At.set (d := 28) (v := vals 5) rfl p5 ?_
        refine At.assign rfl rfl ?_
        refine At.ops0 ?_
        exact fun a ha => ⟨_, ((((((ha).drop2 (congrArg some p5)).drop2 (congrArg some p4)).drop2 (congrArg some p3)).drop2 (congrArg some p2)).drop2 (congrArg some p1)).drop2 (congrArg some p0), RS.refl _ _, rfl⟩
      · skip
        have hB := RS.below hRS hB (by intro p hp; simp only [List.mem_cons, List.not_mem_nil, or_false] at hp; rcases hp with rfl | rfl <;> assumption)
        have hb2 := hRS.old _ _ (by intro p hp; simp only [List.mem_cons, List.not_mem_nil, or_false] at hp; rcases hp with rfl | rfl; exact n_b2_b3; exact n_b2_b4) hb2
        have hb5 := hRS.old _ _ (by intro p hp; simp only [List.mem_cons, List.not_mem_nil, or_false] at hp; rcases hp with rfl | rfl; exact n_b3_b5.symm; exact n_b4_b5.symm) hb5
        have hb3 : w'.heap[b3]? = some (.cells u1.cs 43) := hf 6 (by decide)
        have hb4 : w'.heap[b4]? = some (.cells uf.cs 45) := hf 7 (by decide)
        have p8 : vals 8 = .bool true := hf 8 (by decide)
        refine At.sub (L' := [(4, .pointer (some ⟨b3, 0, none⟩)), (5, .pointer (some ⟨b4, 0, none⟩)), (8, .pointer (some ⟨b5, 0, none⟩)), (9, .int .i64 (i1 : Int)), (6, .bool true)]) (Sub.cons rfl (Sub.cons rfl (Sub.cons rfl (Sub.cons rfl (Sub.cons (congrArg some p8) Sub.nil))))) ?_
        refine At.thenN ?_
        refine At.retc ?_
        refine At.inR ?_
        refine At.thenR ?_
        refine At.thenR ?_
        refine At.inR ?_
        refine At.thenR ?_
        refine At.doneR (ResV.cell rfl (Ld.own ag43 (sz43.trans (congrArg some (((hp).eff hu1)).size.symm)) hb3) (ResV.cell rfl (Ld.own ag45 (sz45.trans (congrArg some (((((hp).eff hu1)).op huf)).size.symm)) hb4) (ResV.tmp rfl ResV.nil))) ?_
        have hq : findEff p.effs s = some (u1, uf) := findSome_yes hu1 (by simp [opIn, hff]) hn
        exact ⟨by rw [hq]; rfl, hB⟩
    · skip
      have hc2' := of_decide_eq_false hc2
      refine At.skip ?_
      refine At.inN ?_
      refine At.thenN ?_
      refine At.region ?_
      refine At.addI rfl rfl rfl (by omega) ?_
      refine At.move rfl rfl ?_
      refine At.ops0 ?_
      refine At.thenN ?_
      exact fun a ha => ⟨(k + 1), ha.sub (Sub.cons rfl (Sub.cons rfl (Sub.cons rfl (Sub.cons rfl (Sub.cons rfl (Sub.cons rfl Sub.nil)))))), ⟨hB, hb2, hb3, hb4, (by omega), (next_none hn hu1 (by simp [opIn, idxI_none (p := opIs s) (l := u1.ops) (by omega)]))⟩, by first | omega | (dsimp only; omega)⟩
  · skip
    have hc1' := of_decide_eq_false hc1
    refine At.exit ?_
    refine At.thenE ?_
    refine At.thenE ?_
    refine At.inE ?_
    refine At.thenN ?_
    refine At.seq ?_
    refine At.region ?_
    refine At.build (C := #[.string (⟨#[]⟩ : ByteArray), (.slice none 0 0)]) sd43 ze43 rfl (Bld.nil _) rfl ?_
    refine At.build (C := #[.string (⟨#[]⟩ : ByteArray), .int .i64 0, .string (⟨#[]⟩ : ByteArray), .int .i64 0, (.slice none 0 0), (.slice none 0 0), .int .i64 0, .int .i64 0, .string (⟨#[]⟩ : ByteArray), .int .i64 0, (.slice none 0 0), (.slice none 0 0), .int .i64 0]) sd45 ze45 rfl (Bld.nil _) rfl ?_
    refine At.storeAll rfl rfl hb3 sz43 rfl (by simp [Value.oneCell', ((SlOk.nil)).one]) (fun w12 S4 => ?_)
    replace hb2 := S4.other hb2 n_b2_b3
    replace hb4 := S4.other hb4 n_b3_b4.symm
    replace hb3 : w12.heap[b3]? = some (.cells #[.string (⟨#[]⟩ : ByteArray), (.slice none 0 0)] 43) := S4.new
    replace hB := S4.below' hB gb3
    refine At.storeAll rfl rfl hb4 sz45 rfl (by simp [Value.oneCell', ((SlOk.nil)).one, ((SlOk.nil)).one, ((SlOk.nil)).one, ((SlOk.nil)).one]) (fun w13 S5 => ?_)
    replace hb2 := S5.other hb2 n_b2_b4
    replace hb3 := S5.other hb3 n_b3_b4
    replace hb4 : w13.heap[b4]? = some (.cells #[.string (⟨#[]⟩ : ByteArray), .int .i64 0, .string (⟨#[]⟩ : ByteArray), .int .i64 0, (.slice none 0 0), (.slice none 0 0), .int .i64 0, .int .i64 0, .string (⟨#[]⟩ : ByteArray), .int .i64 0, (.slice none 0 0), (.slice none 0 0), .int .i64 0] 45) := S5.new
    replace hB := S5.below' hB gb4
    refine At.assign rfl rfl ?_
    refine At.ops0 ?_
    refine At.thenN ?_
    refine At.retc ?_
    refine At.doneR (ResV.cell rfl (Ld.own (C := #[.string (⟨#[]⟩ : ByteArray), (.slice none 0 0)]) ag43 sz43 hb3) (ResV.cell rfl (Ld.own (C := #[.string (⟨#[]⟩ : ByteArray), .int .i64 0, .string (⟨#[]⟩ : ByteArray), .int .i64 0, (.slice none 0 0), (.slice none 0 0), .int .i64 0, .int .i64 0, .string (⟨#[]⟩ : ByteArray), .int .i64 0, (.slice none 0 0), (.slice none 0 0), .int .i64 0]) ag45 sz45 hb4) (ResV.tmp rfl ResV.nil))) ?_
    have hq : findEff p.effs s = none := findSome_no (by omega) hn
    exact ⟨by rw [hq]; rfl, hB⟩
theorem con_any (p : Pr) (s : ByteArray) (w : World) (hp : PrOk w p) (hl : p.effs.length ≤ 9223372036854775807 ∧ p.dats.length ≤ 9223372036854775807) (ho : ∀ e ∈ p.effs, e.ops.length ≤ 9223372036854775807) (hc : ∀ d ∈ p.dats, d.cons.length ≤ 9223372036854775807) :
    Calls Try.prog 18 ([.agg p.cs, .string s] : List Value).toArray w fun e w' => e = .returned (conV (findCon p.dats s)) ∧ Below w.heap.size w w' := by
  have hB := Below.refl w.heap.size w
  refine At.enter (N := 32) Try.func18 rfl rfl (by simp) [(0, .agg p.cs), (1, .string s)] (by simp) ?_
  refine At.seq ?_
  refine At.region ?_
  refine At.box rfl rfl (fun b1 w1 F1 => ?_)
  have gb1 := F1.ge hB
  have hb1 : w1.heap[b1]? = some (.cells p.cs 35) := F1.new
  replace hB := F1.below' hB
  refine At.box rfl rfl (fun b2 w2 F2 => ?_)
  have n_b1_b2 : b1 ≠ b2 := Nat.ne_of_lt (F2.lt hb1)
  have gb2 := F2.ge hB
  replace hb1 := F2.old hb1
  have hb2 : w2.heap[b2]? = some (.cells #[.string s] 9) := F2.new
  replace hB := F2.below' hB
  refine At.alloc ze52 rfl (fun b3 w3 F3 => ?_)
  have n_b1_b3 : b1 ≠ b3 := Nat.ne_of_lt (F3.lt hb1)
  have n_b2_b3 : b2 ≠ b3 := Nat.ne_of_lt (F3.lt hb2)
  have gb3 := F3.ge hB
  replace hb1 := F3.old hb1
  replace hb2 := F3.old hb2
  have hb3 : w3.heap[b3]? = some (.cells #[.string (⟨#[]⟩ : ByteArray), (.slice none 0 0)] 52) := F3.new
  replace hB := F3.below' hB
  refine At.alloc ze54 rfl (fun b4 w4 F4 => ?_)
  have n_b1_b4 : b1 ≠ b4 := Nat.ne_of_lt (F4.lt hb1)
  have n_b2_b4 : b2 ≠ b4 := Nat.ne_of_lt (F4.lt hb2)
  have n_b3_b4 : b3 ≠ b4 := Nat.ne_of_lt (F4.lt hb3)
  have gb4 := F4.ge hB
  replace hb1 := F4.old hb1
  replace hb2 := F4.old hb2
  replace hb3 := F4.old hb3
  have hb4 : w4.heap[b4]? = some (.cells #[.string (⟨#[]⟩ : ByteArray), (.slice none 0 0)] 54) := F4.new
  replace hB := F4.below' hB
  refine At.assign rfl rfl ?_
  refine At.ops0 ?_
  refine At.thenN ?_
  refine At.seq ?_
  refine At.seq ?_
  refine At.region ?_
  refine At.fieldAddr rfl fo35_1 rfl ?_
  refine At.load rfl (Ld.ownCell ag23 hb1 (hp).c1) rfl ?_
  refine At.lenSl rfl ((hp).datsAt).okL el23 rfl ?_
  refine At.move rfl rfl ?_
  refine At.ops0 ?_
  refine At.thenN ?_
  refine At.block ?_
  refine At.loop (Nat) (fun k => [(3, .pointer (some ⟨b2, 0, none⟩)), (4, .pointer (some ⟨b3, 0, none⟩)), (5, .pointer (some ⟨b4, 0, none⟩)), (11, p.dv), (12, .int .i64 (p.dats.length : Int)), (13, .int .i64 (k : Int))]) (fun k w5 => Below w.heap.size w w5 ∧ w5.heap[b2]? = some (.cells #[.string s] 9) ∧ w5.heap[b3]? = some (.cells #[.string (⟨#[]⟩ : ByteArray), (.slice none 0 0)] 52) ∧ w5.heap[b4]? = some (.cells #[.string (⟨#[]⟩ : ByteArray), (.slice none 0 0)] 54) ∧ (k ≤ p.dats.length) ∧ (∀ i x, i < k → p.dats[i]? = some x → conIn s x = none)) (fun k => p.dats.length - k) (0 : Nat) (Sub.cons rfl (Sub.cons rfl (Sub.cons rfl (Sub.cons rfl (Sub.cons rfl (Sub.cons rfl Sub.nil)))))) ⟨hB, hb2, hb3, hb4, (Nat.zero_le _), (fun j x hj => absurd hj (Nat.not_lt_zero j))⟩ (fun k w5 hI => ?_)
  clear hB hb1 hb2 hb3 hb4
  obtain ⟨hB, hb2, hb3, hb4, hk, hn⟩ := hI
  show At _ _ [(3, .pointer (some ⟨b2, 0, none⟩)), (4, .pointer (some ⟨b3, 0, none⟩)), (5, .pointer (some ⟨b4, 0, none⟩)), (11, p.dv), (12, .int .i64 (p.dats.length : Int)), (13, .int .i64 (k : Int))] _ _
  have hlk := hl
  refine At.seq ?_
  refine At.region ?_
  refine At.lss rfl rfl rfl ?_
  refine At.ops0 ?_
  refine At.thenN ?_
  refine At.seq ?_
  refine At.cond (b := decide ((k : Int) < (p.dats.length : Int))) rfl (fun hc1 => ?_) (fun hc1 => ?_)
  · skip
    have hc1' := of_decide_eq_true hc1
    refine At.skip ?_
    refine At.thenN ?_
    refine At.seq ?_
    refine At.block ?_
    refine At.seq ?_
    refine At.region ?_
    obtain ⟨u1, hu1⟩ := some_of_lt (l := p.dats) (i := k) (by omega)
    refine At.indexAddr (i := k) rfl rfl ((hp).datsAt).okL (lt_of_some hu1) el23 sz52 rfl ?_
    refine At.load rfl (Ld.row ag52 (sz52.trans (congrArg some (((hp).dat hu1)).size.symm)) ((((hp).datsAt).row hu1).keep hB)) rfl ?_
    refine At.alloc ze52 rfl (fun b5 w6 F5 => ?_)
    have n_b2_b5 : b2 ≠ b5 := Nat.ne_of_lt (F5.lt hb2)
    have n_b3_b5 : b3 ≠ b5 := Nat.ne_of_lt (F5.lt hb3)
    have n_b4_b5 : b4 ≠ b5 := Nat.ne_of_lt (F5.lt hb4)
    have gb5 := F5.ge hB
    replace hb2 := F5.old hb2
    replace hb3 := F5.old hb3
    replace hb4 := F5.old hb4
    have hb5 : w6.heap[b5]? = some (.cells #[.string (⟨#[]⟩ : ByteArray), (.slice none 0 0)] 52) := F5.new
    replace hB := F5.below' hB
    refine At.storeAll rfl rfl hb5 (sz52.trans (congrArg some (((hp).dat hu1)).size.symm)) (((hp).dat hu1)).size.symm (((hp).dat hu1)).one (fun w7 S1 => ?_)
    replace hb2 := S1.other hb2 n_b2_b5
    replace hb3 := S1.other hb3 n_b3_b5
    replace hb4 := S1.other hb4 n_b4_b5
    replace hb5 : w7.heap[b5]? = some (.cells u1.cs 52) := S1.new
    replace hB := S1.below' hB gb5
    refine At.ops0 ?_
    refine At.thenN ?_
    refine At.seq ?_
    refine At.region ?_
    refine At.fieldAddr rfl fo52_1 rfl ?_
    refine At.load rfl (Ld.ownCell ag50 hb5 (((hp).dat hu1)).c1) rfl ?_
    refine At.makeFunc rfl rfl ?_
    have hlo := hc u1 (List.mem_of_getElem? hu1)
    refine At.call en35 rfl rfl (indexF_Cn u1.cv u1.cons 36 [.pointer (some ⟨b2, 0, none⟩)] (cnIs s) _ (((((hp).dat hu1)).consAt).keep hB) (fun u hu => ((((hp).dat hu1)).conOk u hu).keep hB) en36 (by assumption) (fun u w1 hw hu => clo_Cn u b2 s w1 (hu.keep hw) (Below.old hw hb2))) (fun e w8 hR => ?_)
    obtain ⟨rfl, hbl1⟩ := hR
    refine ⟨_, rfl, ?_⟩
    replace hb2 := Below.old hbl1 hb2
    replace hb3 := Below.old hbl1 hb3
    replace hb4 := Below.old hbl1 hb4
    replace hb5 := Below.old hbl1 hb5
    replace hB := Below.andThen hB hbl1
    refine At.assign rfl rfl ?_
    refine At.ops0 ?_
    refine At.thenN ?_
    refine At.seq ?_
    refine At.region ?_
    refine At.move rfl rfl ?_
    refine At.geq rfl rfl rfl ?_
    refine At.ops0 ?_
    refine At.thenN ?_
    refine At.cond (b := decide (0 ≤ (idxI (cnIs s) u1.cons))) rfl (fun hc2 => ?_) (fun hc2 => ?_)
    · skip
      have hc2' := of_decide_eq_true hc2
      refine At.seq ?_
      obtain ⟨i1, uf, hei, huf, hff⟩ := idxI_find (p := cnIs s) (l := u1.cons) (by assumption)
      refine At.set (d := 9) (u := .int .i64 (i1 : Int)) rfl (congrArg (Value.int .i64) hei) ?_
      refine At.draw mixed [(4, .pointer (some ⟨b3, 0, none⟩)), (5, .pointer (some ⟨b4, 0, none⟩)), (8, .pointer (some ⟨b5, 0, none⟩)), (9, .int .i64 (i1 : Int))] (Sub.cons rfl (Sub.cons rfl (Sub.cons rfl (Sub.cons rfl Sub.nil)))) rfl (RS ([(b3, .cells u1.cs 52), (b4, .cells uf.cs 54)] : List (Nat × Obj))) (dF [.c (.agg u1.cs), .c (.pointer (some ⟨b5, 0 + 1, none⟩)), .c (u1.cv), .c (.int .i64 (i1 : Int)), .c (.pointer (some ⟨vBlock u1.cv, vOff u1.cv + i1 * 2, none⟩)), .c (.agg uf.cs), .s b3 (.cells u1.cs 52), .s b4 (.cells uf.cs 54), .c (.bool true)]) (RS.drew _ _) RS.trans (dF.stab (by simp)) ⟨?_, ?_, ?_, ?_, ?_, ?_, ?_, ?_, ?_, trivial⟩ (fun vals w' hRS hf => ?_)
      · intro vals Lx w1 hRS hpre
        have hB := RS.below hRS hB (by intro p hp; simp only [List.mem_cons, List.not_mem_nil, or_false] at hp; rcases hp with rfl | rfl <;> assumption)
        have hb2 := hRS.old _ _ (by intro p hp; simp only [List.mem_cons, List.not_mem_nil, or_false] at hp; rcases hp with rfl | rfl; exact n_b2_b3; exact n_b2_b4) hb2
        have hb5 := hRS.old _ _ (by intro p hp; simp only [List.mem_cons, List.not_mem_nil, or_false] at hp; rcases hp with rfl | rfl; exact n_b3_b5.symm; exact n_b4_b5.symm) hb5
        obtain ⟨c_b3, hb3, z_b3⟩ := hRS.shape (b3, .cells u1.cs 52) (by simp) _ _ hb3
        obtain ⟨c_b4, hb4, z_b4⟩ := hRS.shape (b4, .cells uf.cs 54) (by simp) _ _ hb4
        refine At.load rfl (Ld.own ag52 (sz52.trans (congrArg some (((hp).dat hu1)).size.symm)) hb5) rfl ?_
        refine At.ops0 ?_
        exact fun a ha => ⟨_, ha, RS.refl _ _, rfl⟩
      · intro vals Lx w1 hRS hpre
        have hB := RS.below hRS hB (by intro p hp; simp only [List.mem_cons, List.not_mem_nil, or_false] at hp; rcases hp with rfl | rfl <;> assumption)
        have hb2 := hRS.old _ _ (by intro p hp; simp only [List.mem_cons, List.not_mem_nil, or_false] at hp; rcases hp with rfl | rfl; exact n_b2_b3; exact n_b2_b4) hb2
        have hb5 := hRS.old _ _ (by intro p hp; simp only [List.mem_cons, List.not_mem_nil, or_false] at hp; rcases hp with rfl | rfl; exact n_b3_b5.symm; exact n_b4_b5.symm) hb5
        obtain ⟨c_b3, hb3, z_b3⟩ := hRS.shape (b3, .cells u1.cs 52) (by simp) _ _ hb3
        obtain ⟨c_b4, hb4, z_b4⟩ := hRS.shape (b4, .cells uf.cs 54) (by simp) _ _ hb4
        refine At.fieldAddr rfl fo52_1 rfl ?_
        refine At.ops0 ?_
        exact fun a ha => ⟨_, ha, RS.refl _ _, rfl⟩
      · intro vals Lx w1 hRS hpre
        have hB := RS.below hRS hB (by intro p hp; simp only [List.mem_cons, List.not_mem_nil, or_false] at hp; rcases hp with rfl | rfl <;> assumption)
        have hb2 := hRS.old _ _ (by intro p hp; simp only [List.mem_cons, List.not_mem_nil, or_false] at hp; rcases hp with rfl | rfl; exact n_b2_b3; exact n_b2_b4) hb2
        have hb5 := hRS.old _ _ (by intro p hp; simp only [List.mem_cons, List.not_mem_nil, or_false] at hp; rcases hp with rfl | rfl; exact n_b3_b5.symm; exact n_b4_b5.symm) hb5
        obtain ⟨c_b3, hb3, z_b3⟩ := hRS.shape (b3, .cells u1.cs 52) (by simp) _ _ hb3
        obtain ⟨c_b4, hb4, z_b4⟩ := hRS.shape (b4, .cells uf.cs 54) (by simp) _ _ hb4
        have p1 : vals 1 = .pointer (some ⟨b5, 0 + 1, none⟩) := hpre 1 (by decide)
        refine At.set (d := 24) (v := vals 1) rfl p1 ?_
        refine At.load rfl (Ld.ownCell ag50 hb5 (((hp).dat hu1)).c1) rfl ?_
        refine At.ops0 ?_
        exact fun a ha => ⟨_, (ha).drop2 (congrArg some p1), RS.refl _ _, rfl⟩
      · intro vals Lx w1 hRS hpre
        have hB := RS.below hRS hB (by intro p hp; simp only [List.mem_cons, List.not_mem_nil, or_false] at hp; rcases hp with rfl | rfl <;> assumption)
        have hb2 := hRS.old _ _ (by intro p hp; simp only [List.mem_cons, List.not_mem_nil, or_false] at hp; rcases hp with rfl | rfl; exact n_b2_b3; exact n_b2_b4) hb2
        have hb5 := hRS.old _ _ (by intro p hp; simp only [List.mem_cons, List.not_mem_nil, or_false] at hp; rcases hp with rfl | rfl; exact n_b3_b5.symm; exact n_b4_b5.symm) hb5
        obtain ⟨c_b3, hb3, z_b3⟩ := hRS.shape (b3, .cells u1.cs 52) (by simp) _ _ hb3
        obtain ⟨c_b4, hb4, z_b4⟩ := hRS.shape (b4, .cells uf.cs 54) (by simp) _ _ hb4
        refine At.move rfl rfl ?_
        refine At.ops0 ?_
        exact fun a ha => ⟨_, ha, RS.refl _ _, rfl⟩
      · intro vals Lx w1 hRS hpre
        have hB := RS.below hRS hB (by intro p hp; simp only [List.mem_cons, List.not_mem_nil, or_false] at hp; rcases hp with rfl | rfl <;> assumption)
        have hb2 := hRS.old _ _ (by intro p hp; simp only [List.mem_cons, List.not_mem_nil, or_false] at hp; rcases hp with rfl | rfl; exact n_b2_b3; exact n_b2_b4) hb2
        have hb5 := hRS.old _ _ (by intro p hp; simp only [List.mem_cons, List.not_mem_nil, or_false] at hp; rcases hp with rfl | rfl; exact n_b3_b5.symm; exact n_b4_b5.symm) hb5
        obtain ⟨c_b3, hb3, z_b3⟩ := hRS.shape (b3, .cells u1.cs 52) (by simp) _ _ hb3
        obtain ⟨c_b4, hb4, z_b4⟩ := hRS.shape (b4, .cells uf.cs 54) (by simp) _ _ hb4
        have p2 : vals 2 = u1.cv := hpre 2 (by decide)
        refine At.set (d := 25) (v := vals 2) rfl p2 ?_
        have p3 : vals 3 = .int .i64 (i1 : Int) := hpre 3 (by decide)
        refine At.set (d := 26) (v := vals 3) rfl p3 ?_
        refine At.indexAddr (i := i1) rfl rfl ((((hp).dat hu1)).consAt).okL (lt_of_some huf) el50 sz54 rfl ?_
        refine At.ops0 ?_
        exact fun a ha => ⟨_, ((ha).drop2 (congrArg some p3)).drop2 (congrArg some p2), RS.refl _ _, rfl⟩
      · intro vals Lx w1 hRS hpre
        have hB := RS.below hRS hB (by intro p hp; simp only [List.mem_cons, List.not_mem_nil, or_false] at hp; rcases hp with rfl | rfl <;> assumption)
        have hb2 := hRS.old _ _ (by intro p hp; simp only [List.mem_cons, List.not_mem_nil, or_false] at hp; rcases hp with rfl | rfl; exact n_b2_b3; exact n_b2_b4) hb2
        have hb5 := hRS.old _ _ (by intro p hp; simp only [List.mem_cons, List.not_mem_nil, or_false] at hp; rcases hp with rfl | rfl; exact n_b3_b5.symm; exact n_b4_b5.symm) hb5
        obtain ⟨c_b3, hb3, z_b3⟩ := hRS.shape (b3, .cells u1.cs 52) (by simp) _ _ hb3
        obtain ⟨c_b4, hb4, z_b4⟩ := hRS.shape (b4, .cells uf.cs 54) (by simp) _ _ hb4
        have p4 : vals 4 = .pointer (some ⟨vBlock u1.cv, vOff u1.cv + i1 * 2, none⟩) := hpre 4 (by decide)
        refine At.set (d := 27) (v := vals 4) rfl p4 ?_
        refine At.load rfl (Ld.row ag54 (sz54.trans (congrArg some (((((hp).dat hu1)).con huf)).size.symm)) ((((((hp).dat hu1)).consAt).row huf).keep hB)) rfl ?_
        refine At.ops0 ?_
        exact fun a ha => ⟨_, (ha).drop2 (congrArg some p4), RS.refl _ _, rfl⟩
      · intro vals Lx w1 hRS hpre
        have hB := RS.below hRS hB (by intro p hp; simp only [List.mem_cons, List.not_mem_nil, or_false] at hp; rcases hp with rfl | rfl <;> assumption)
        have hb2 := hRS.old _ _ (by intro p hp; simp only [List.mem_cons, List.not_mem_nil, or_false] at hp; rcases hp with rfl | rfl; exact n_b2_b3; exact n_b2_b4) hb2
        have hb5 := hRS.old _ _ (by intro p hp; simp only [List.mem_cons, List.not_mem_nil, or_false] at hp; rcases hp with rfl | rfl; exact n_b3_b5.symm; exact n_b4_b5.symm) hb5
        obtain ⟨c_b3, hb3, z_b3⟩ := hRS.shape (b3, .cells u1.cs 52) (by simp) _ _ hb3
        obtain ⟨c_b4, hb4, z_b4⟩ := hRS.shape (b4, .cells uf.cs 54) (by simp) _ _ hb4
        have p0 : vals 0 = .agg u1.cs := hpre 0 (by decide)
        refine At.set (d := 23) (v := vals 0) rfl p0 ?_
        have hb3_old := hb3
        have z_b3_eq := ((z_b3.trans ((((hp).dat hu1)).size.symm))).symm
        refine At.storeAll rfl rfl hb3 (sz52.trans (congrArg some (((hp).dat hu1)).size.symm)) (z_b3.trans ((((hp).dat hu1)).size.symm)) (((hp).dat hu1)).one (fun w9 S2 => ?_)
        replace hb2 := S2.other hb2 n_b2_b3
        replace hb4 := S2.other hb4 n_b3_b4.symm
        replace hb5 := S2.other hb5 n_b3_b5.symm
        replace hb3 : w9.heap[b3]? = some (.cells u1.cs 52) := S2.new
        replace hB := S2.below' hB gb3
        refine At.ops0 ?_
        exact fun a ha => ⟨undef, (ha).drop1 (congrArg some p0), RS.of_set S2 (by simp) hb3_old (z_b3_eq) (by intro p hp e; simp only [List.mem_cons, List.not_mem_nil, or_false] at hp; rcases hp with rfl | rfl <;> first | rfl | (exfalso; revert e; assumption) | (exfalso; exact absurd e.symm (by assumption))), hb3⟩
      · intro vals Lx w1 hRS hpre
        have hB := RS.below hRS hB (by intro p hp; simp only [List.mem_cons, List.not_mem_nil, or_false] at hp; rcases hp with rfl | rfl <;> assumption)
        have hb2 := hRS.old _ _ (by intro p hp; simp only [List.mem_cons, List.not_mem_nil, or_false] at hp; rcases hp with rfl | rfl; exact n_b2_b3; exact n_b2_b4) hb2
        have hb5 := hRS.old _ _ (by intro p hp; simp only [List.mem_cons, List.not_mem_nil, or_false] at hp; rcases hp with rfl | rfl; exact n_b3_b5.symm; exact n_b4_b5.symm) hb5
        obtain ⟨c_b3, hb3, z_b3⟩ := hRS.shape (b3, .cells u1.cs 52) (by simp) _ _ hb3
        obtain ⟨c_b4, hb4, z_b4⟩ := hRS.shape (b4, .cells uf.cs 54) (by simp) _ _ hb4
        have p5 : vals 5 = .agg uf.cs := hpre 5 (by decide)
        refine At.set (d := 28) (v := vals 5) rfl p5 ?_
        have p0 : vals 0 = .agg u1.cs := hpre 0 (by decide)
        refine At.set (d := 23) (v := vals 0) rfl p0 ?_
        have p1 : vals 1 = .pointer (some ⟨b5, 0 + 1, none⟩) := hpre 1 (by decide)
        refine At.set (d := 24) (v := vals 1) rfl p1 ?_
        have p2 : vals 2 = u1.cv := hpre 2 (by decide)
        refine At.set (d := 25) (v := vals 2) rfl p2 ?_
        have p3 : vals 3 = .int .i64 (i1 : Int) := hpre 3 (by decide)
        refine At.set (d := 26) (v := vals 3) rfl p3 ?_
        have p4 : vals 4 = .pointer (some ⟨vBlock u1.cv, vOff u1.cv + i1 * 2, none⟩) := hpre 4 (by decide)
        refine At.set (d := 27) (v := vals 4) rfl p4 ?_
        have hb4_old := hb4
        have z_b4_eq := ((z_b4.trans ((((((hp).dat hu1)).con huf)).size.symm))).symm
        refine At.storeAll rfl rfl hb4 (sz54.trans (congrArg some (((((hp).dat hu1)).con huf)).size.symm)) (z_b4.trans ((((((hp).dat hu1)).con huf)).size.symm)) (((((hp).dat hu1)).con huf)).one (fun w10 S3 => ?_)
        replace hb2 := S3.other hb2 n_b2_b4
        replace hb3 := S3.other hb3 n_b3_b4
        replace hb5 := S3.other hb5 n_b4_b5.symm
        replace hb4 : w10.heap[b4]? = some (.cells uf.cs 54) := S3.new
        replace hB := S3.below' hB gb4
        refine At.ops0 ?_
        exact fun a ha => ⟨undef, ((((((ha).drop1 (congrArg some p4)).drop1 (congrArg some p3)).drop1 (congrArg some p2)).drop1 (congrArg some p1)).drop1 (congrArg some p0)).drop1 (congrArg some p5), RS.of_set S3 (by simp) hb4_old (z_b4_eq) (by intro p hp e; simp only [List.mem_cons, List.not_mem_nil, or_false] at hp; rcases hp with rfl | rfl <;> first | rfl | (exfalso; revert e; assumption) | (exfalso; exact absurd e.symm (by assumption))), hb4⟩
      · intro vals Lx w1 hRS hpre
        have hB := RS.below hRS hB (by intro p hp; simp only [List.mem_cons, List.not_mem_nil, or_false] at hp; rcases hp with rfl | rfl <;> assumption)
        have hb2 := hRS.old _ _ (by intro p hp; simp only [List.mem_cons, List.not_mem_nil, or_false] at hp; rcases hp with rfl | rfl; exact n_b2_b3; exact n_b2_b4) hb2
        have hb5 := hRS.old _ _ (by intro p hp; simp only [List.mem_cons, List.not_mem_nil, or_false] at hp; rcases hp with rfl | rfl; exact n_b3_b5.symm; exact n_b4_b5.symm) hb5
        obtain ⟨c_b3, hb3, z_b3⟩ := hRS.shape (b3, .cells u1.cs 52) (by simp) _ _ hb3
        obtain ⟨c_b4, hb4, z_b4⟩ := hRS.shape (b4, .cells uf.cs 54) (by simp) _ _ hb4
        have p0 : vals 0 = .agg u1.cs := hpre 0 (by decide)
        refine At.set (d := 23) (v := vals 0) rfl p0 ?_
        have p1 : vals 1 = .pointer (some ⟨b5, 0 + 1, none⟩) := hpre 1 (by decide)
        refine At.set (d := 24) (v := vals 1) rfl p1 ?_
        have p2 : vals 2 = u1.cv := hpre 2 (by decide)
        refine At.set (d := 25) (v := vals 2) rfl p2 ?_
        have p3 : vals 3 = .int .i64 (i1 : Int) := hpre 3 (by decide)
        refine At.set (d := 26) (v := vals 3) rfl p3 ?_
        have p4 : vals 4 = .pointer (some ⟨vBlock u1.cv, vOff u1.cv + i1 * 2, none⟩) := hpre 4 (by decide)
        refine At.set (d := 27) (v := vals 4) rfl p4 ?_
        have p5 : vals 5 = .agg uf.cs := hpre 5 (by decide)
        refine At.set (d := 28) (v := vals 5) rfl p5 ?_
        refine At.assign rfl rfl ?_
        refine At.ops0 ?_
        exact fun a ha => ⟨_, ((((((ha).drop2 (congrArg some p5)).drop2 (congrArg some p4)).drop2 (congrArg some p3)).drop2 (congrArg some p2)).drop2 (congrArg some p1)).drop2 (congrArg some p0), RS.refl _ _, rfl⟩
      · skip
        have hB := RS.below hRS hB (by intro p hp; simp only [List.mem_cons, List.not_mem_nil, or_false] at hp; rcases hp with rfl | rfl <;> assumption)
        have hb2 := hRS.old _ _ (by intro p hp; simp only [List.mem_cons, List.not_mem_nil, or_false] at hp; rcases hp with rfl | rfl; exact n_b2_b3; exact n_b2_b4) hb2
        have hb5 := hRS.old _ _ (by intro p hp; simp only [List.mem_cons, List.not_mem_nil, or_false] at hp; rcases hp with rfl | rfl; exact n_b3_b5.symm; exact n_b4_b5.symm) hb5
        have hb3 : w'.heap[b3]? = some (.cells u1.cs 52) := hf 6 (by decide)
        have hb4 : w'.heap[b4]? = some (.cells uf.cs 54) := hf 7 (by decide)
        have p8 : vals 8 = .bool true := hf 8 (by decide)
        refine At.sub (L' := [(4, .pointer (some ⟨b3, 0, none⟩)), (5, .pointer (some ⟨b4, 0, none⟩)), (8, .pointer (some ⟨b5, 0, none⟩)), (9, .int .i64 (i1 : Int)), (6, .bool true)]) (Sub.cons rfl (Sub.cons rfl (Sub.cons rfl (Sub.cons rfl (Sub.cons (congrArg some p8) Sub.nil))))) ?_
        refine At.thenN ?_
        refine At.retc ?_
        refine At.inR ?_
        refine At.thenR ?_
        refine At.thenR ?_
        refine At.inR ?_
        refine At.thenR ?_
        refine At.doneR (ResV.cell rfl (Ld.own ag52 (sz52.trans (congrArg some (((hp).dat hu1)).size.symm)) hb3) (ResV.cell rfl (Ld.own ag54 (sz54.trans (congrArg some (((((hp).dat hu1)).con huf)).size.symm)) hb4) (ResV.tmp rfl ResV.nil))) ?_
        have hq : findCon p.dats s = some (u1, uf) := findSome_yes hu1 (by simp [conIn, hff]) hn
        exact ⟨by rw [hq]; rfl, hB⟩
    · skip
      have hc2' := of_decide_eq_false hc2
      refine At.skip ?_
      refine At.inN ?_
      refine At.thenN ?_
      refine At.region ?_
      refine At.addI rfl rfl rfl (by omega) ?_
      refine At.move rfl rfl ?_
      refine At.ops0 ?_
      refine At.thenN ?_
      exact fun a ha => ⟨(k + 1), ha.sub (Sub.cons rfl (Sub.cons rfl (Sub.cons rfl (Sub.cons rfl (Sub.cons rfl (Sub.cons rfl Sub.nil)))))), ⟨hB, hb2, hb3, hb4, (by omega), (next_none hn hu1 (by simp [conIn, idxI_none (p := cnIs s) (l := u1.cons) (by omega)]))⟩, by first | omega | (dsimp only; omega)⟩
  · skip
    have hc1' := of_decide_eq_false hc1
    refine At.exit ?_
    refine At.thenE ?_
    refine At.thenE ?_
    refine At.inE ?_
    refine At.thenN ?_
    refine At.seq ?_
    refine At.region ?_
    refine At.build (C := #[.string (⟨#[]⟩ : ByteArray), (.slice none 0 0)]) sd52 ze52 rfl (Bld.nil _) rfl ?_
    refine At.build (C := #[.string (⟨#[]⟩ : ByteArray), (.slice none 0 0)]) sd54 ze54 rfl (Bld.nil _) rfl ?_
    refine At.storeAll rfl rfl hb3 sz52 rfl (by simp [Value.oneCell', ((SlOk.nil)).one]) (fun w12 S4 => ?_)
    replace hb2 := S4.other hb2 n_b2_b3
    replace hb4 := S4.other hb4 n_b3_b4.symm
    replace hb3 : w12.heap[b3]? = some (.cells #[.string (⟨#[]⟩ : ByteArray), (.slice none 0 0)] 52) := S4.new
    replace hB := S4.below' hB gb3
    refine At.storeAll rfl rfl hb4 sz54 rfl (by simp [Value.oneCell', ((SlOk.nil)).one]) (fun w13 S5 => ?_)
    replace hb2 := S5.other hb2 n_b2_b4
    replace hb3 := S5.other hb3 n_b3_b4
    replace hb4 : w13.heap[b4]? = some (.cells #[.string (⟨#[]⟩ : ByteArray), (.slice none 0 0)] 54) := S5.new
    replace hB := S5.below' hB gb4
    refine At.assign rfl rfl ?_
    refine At.ops0 ?_
    refine At.thenN ?_
    refine At.retc ?_
    refine At.doneR (ResV.cell rfl (Ld.own (C := #[.string (⟨#[]⟩ : ByteArray), (.slice none 0 0)]) ag52 sz52 hb3) (ResV.cell rfl (Ld.own (C := #[.string (⟨#[]⟩ : ByteArray), (.slice none 0 0)]) ag54 sz54 hb4) (ResV.tmp rfl ResV.nil))) ?_
    have hq : findCon p.dats s = none := findSome_no (by omega) hn
    exact ⟨by rw [hq]; rfl, hB⟩
theorem handled_any (p : Pr) (s : ByteArray) (w : World) (hp : PrOk w p) (hl : p.effs.length ≤ 9223372036854775807) :
    Calls Try.prog 16 ([.agg p.cs, .string s] : List Value).toArray w fun e w' => e = .returned (hdV (findHd p.effs s)) ∧ Below w.heap.size w w' := by
  have hB := Below.refl w.heap.size w
  refine At.enter (N := 19) Try.func16 rfl rfl (by simp) [(0, .agg p.cs), (1, .string s)] (by simp) ?_
  refine At.seq ?_
  refine At.region ?_
  refine At.box rfl rfl (fun b1 w1 F1 => ?_)
  have gb1 := F1.ge hB
  have hb1 : w1.heap[b1]? = some (.cells p.cs 35) := F1.new
  replace hB := F1.below' hB
  refine At.box rfl rfl (fun b2 w2 F2 => ?_)
  have n_b1_b2 : b1 ≠ b2 := Nat.ne_of_lt (F2.lt hb1)
  have gb2 := F2.ge hB
  replace hb1 := F2.old hb1
  have hb2 : w2.heap[b2]? = some (.cells #[.string s] 9) := F2.new
  replace hB := F2.below' hB
  refine At.alloc ze43 rfl (fun b3 w3 F3 => ?_)
  have n_b1_b3 : b1 ≠ b3 := Nat.ne_of_lt (F3.lt hb1)
  have n_b2_b3 : b2 ≠ b3 := Nat.ne_of_lt (F3.lt hb2)
  have gb3 := F3.ge hB
  replace hb1 := F3.old hb1
  replace hb2 := F3.old hb2
  have hb3 : w3.heap[b3]? = some (.cells #[.string (⟨#[]⟩ : ByteArray), (.slice none 0 0)] 43) := F3.new
  replace hB := F3.below' hB
  refine At.assign rfl rfl ?_
  refine At.ops0 ?_
  refine At.thenN ?_
  refine At.seq ?_
  refine At.region ?_
  refine At.fieldAddr rfl fo35_0 rfl ?_
  refine At.load rfl (Ld.ownCell ag22 hb1 (hp).c0) rfl ?_
  refine At.makeFunc rfl rfl ?_
  refine At.call en33 rfl rfl (indexF_Eff p.ev p.effs 34 [.pointer (some ⟨b2, 0, none⟩)] (effIs s) _ (((hp).effsAt).keep hB) (fun u hu => ((hp).effOk u hu).keep hB) en34 (by assumption) (fun u w1 hw hu => clo_Eff u b2 s w1 (hu.keep hw) (Below.old hw hb2))) (fun e w4 hR => ?_)
  obtain ⟨rfl, hbl1⟩ := hR
  refine ⟨_, rfl, ?_⟩
  replace hb1 := Below.old hbl1 hb1
  replace hb2 := Below.old hbl1 hb2
  replace hb3 := Below.old hbl1 hb3
  replace hB := Below.andThen hB hbl1
  refine At.assign rfl rfl ?_
  refine At.ops0 ?_
  refine At.thenN ?_
  refine At.seq ?_
  refine At.seq ?_
  refine At.region ?_
  refine At.move rfl rfl ?_
  refine At.lss rfl rfl rfl ?_
  refine At.ops0 ?_
  refine At.thenN ?_
  refine At.cond (b := decide ((idxI (effIs s) p.effs) < 0)) rfl (fun hc1 => ?_) (fun hc1 => ?_)
  · skip
    have hc1' := of_decide_eq_true hc1
    refine At.seq ?_
    refine At.region ?_
    refine At.build (C := #[.string (⟨#[]⟩ : ByteArray), (.slice none 0 0)]) sd43 ze43 rfl (Bld.nil _) rfl ?_
    refine At.storeAll rfl rfl hb3 sz43 rfl (by simp [Value.oneCell', ((SlOk.nil)).one]) (fun w5 S1 => ?_)
    replace hb1 := S1.other hb1 n_b1_b3
    replace hb2 := S1.other hb2 n_b2_b3
    replace hb3 : w5.heap[b3]? = some (.cells #[.string (⟨#[]⟩ : ByteArray), (.slice none 0 0)] 43) := S1.new
    replace hB := S1.below' hB gb3
    refine At.assign rfl rfl ?_
    refine At.ops0 ?_
    refine At.thenN ?_
    refine At.retc ?_
    refine At.thenR ?_
    refine At.doneR (ResV.cell rfl (Ld.own (C := #[.string (⟨#[]⟩ : ByteArray), (.slice none 0 0)]) ag43 sz43 hb3) (ResV.tmp rfl ResV.nil)) ?_
    have hq : findHd p.effs s = none := idxI_none (by omega)
    exact ⟨by rw [hq]; rfl, hB⟩
  · skip
    have hc1' := of_decide_eq_false hc1
    refine At.skip ?_
    refine At.thenN ?_
    refine At.seq ?_
    obtain ⟨i1, uf, hei, huf, hff⟩ := idxI_find (p := effIs s) (l := p.effs) (by omega)
    replace hff : findHd p.effs s = some uf := hff
    refine At.set (d := 6) (u := .int .i64 (i1 : Int)) rfl (congrArg (Value.int .i64) hei) ?_
    refine At.region ?_
    refine At.fieldAddr rfl fo35_0 rfl ?_
    refine At.load rfl (Ld.ownCell ag22 hb1 (hp).c0) rfl ?_
    refine At.move rfl rfl ?_
    refine At.indexAddr (i := i1) rfl rfl ((hp).effsAt).okL (lt_of_some huf) el22 sz43 rfl ?_
    refine At.load rfl (Ld.row ag43 (sz43.trans (congrArg some (((hp).eff huf)).size.symm)) ((((hp).effsAt).row huf).keep hB)) rfl ?_
    refine At.storeAll rfl rfl hb3 (sz43.trans (congrArg some (((hp).eff huf)).size.symm)) (((hp).eff huf)).size.symm (((hp).eff huf)).one (fun w6 S2 => ?_)
    replace hb1 := S2.other hb1 n_b1_b3
    replace hb2 := S2.other hb2 n_b2_b3
    replace hb3 : w6.heap[b3]? = some (.cells uf.cs 43) := S2.new
    replace hB := S2.below' hB gb3
    refine At.assign rfl rfl ?_
    refine At.ops0 ?_
    refine At.thenN ?_
    refine At.retc ?_
    refine At.doneR (ResV.cell rfl (Ld.own ag43 (sz43.trans (congrArg some (((hp).eff huf)).size.symm)) hb3) (ResV.tmp rfl ResV.nil)) ?_
    exact ⟨by rw [hff]; rfl, hB⟩
theorem refEffect_any (p : Pr) (s : ByteArray) (w : World) (hp : PrOk w p) (hl : p.effs.length ≤ 9223372036854775807 ∧ p.dats.length ≤ 9223372036854775807) (ho : ∀ e ∈ p.effs, e.ops.length ≤ 9223372036854775807) (hc : ∀ d ∈ p.dats, d.cons.length ≤ 9223372036854775807) :
    Calls Try.prog 15 ([.agg p.cs, .string s] : List Value).toArray w fun e w' => e = .returned (effV (findEff p.effs s)) ∧ Below w.heap.size w w' := by
  have hB := Below.refl w.heap.size w
  refine At.enter (N := 55) Try.func15 rfl rfl (by simp) [(0, .agg p.cs), (1, .string s)] (by simp) ?_
  refine At.seq ?_
  refine At.region ?_
  refine At.box rfl rfl (fun b1 w1 F1 => ?_)
  have gb1 := F1.ge hB
  have hb1 : w1.heap[b1]? = some (.cells p.cs 35) := F1.new
  replace hB := F1.below' hB
  refine At.alloc ze43 rfl (fun b2 w2 F2 => ?_)
  have n_b1_b2 : b1 ≠ b2 := Nat.ne_of_lt (F2.lt hb1)
  have gb2 := F2.ge hB
  replace hb1 := F2.old hb1
  have hb2 : w2.heap[b2]? = some (.cells #[.string (⟨#[]⟩ : ByteArray), (.slice none 0 0)] 43) := F2.new
  replace hB := F2.below' hB
  refine At.alloc ze45 rfl (fun b3 w3 F3 => ?_)
  have n_b1_b3 : b1 ≠ b3 := Nat.ne_of_lt (F3.lt hb1)
  have n_b2_b3 : b2 ≠ b3 := Nat.ne_of_lt (F3.lt hb2)
  have gb3 := F3.ge hB
  replace hb1 := F3.old hb1
  replace hb2 := F3.old hb2
  have hb3 : w3.heap[b3]? = some (.cells #[.string (⟨#[]⟩ : ByteArray), .int .i64 0, .string (⟨#[]⟩ : ByteArray), .int .i64 0, (.slice none 0 0), (.slice none 0 0), .int .i64 0, .int .i64 0, .string (⟨#[]⟩ : ByteArray), .int .i64 0, (.slice none 0 0), (.slice none 0 0), .int .i64 0] 45) := F3.new
  replace hB := F3.below' hB
  refine At.assign rfl rfl ?_
  refine At.ops0 ?_
  refine At.thenN ?_
  refine At.seq ?_
  refine At.seq ?_
  refine At.region ?_
  refine At.assign rfl rfl ?_
  refine At.ops0 ?_
  refine At.thenN ?_
  refine At.block ?_
  refine At.loop (Nat) (fun k => [(1, .string s), (2, .pointer (some ⟨b1, 0, none⟩)), (4, .pointer (some ⟨b2, 0, none⟩)), (5, .pointer (some ⟨b3, 0, none⟩)), (7, .int .i64 (k : Int))]) (fun k w4 => Below w.heap.size w w4 ∧ w4.heap[b1]? = some (.cells p.cs 35) ∧ w4.heap[b2]? = some (.cells #[.string (⟨#[]⟩ : ByteArray), (.slice none 0 0)] 43) ∧ w4.heap[b3]? = some (.cells #[.string (⟨#[]⟩ : ByteArray), .int .i64 0, .string (⟨#[]⟩ : ByteArray), .int .i64 0, (.slice none 0 0), (.slice none 0 0), .int .i64 0, .int .i64 0, .string (⟨#[]⟩ : ByteArray), .int .i64 0, (.slice none 0 0), (.slice none 0 0), .int .i64 0] 45) ∧ (k ≤ p.effs.length) ∧ (∀ i x, i < k → p.effs[i]? = some x → opIn s x = none)) (fun k => p.effs.length - k) (0 : Nat) (Sub.cons rfl (Sub.cons rfl (Sub.cons rfl (Sub.cons rfl (Sub.cons rfl Sub.nil))))) ⟨hB, hb1, hb2, hb3, (Nat.zero_le _), (fun j x hj => absurd hj (Nat.not_lt_zero j))⟩ (fun k w4 hI => ?_)
  clear hB hb1 hb2 hb3
  obtain ⟨hB, hb1, hb2, hb3, hk, hn⟩ := hI
  show At _ _ [(1, .string s), (2, .pointer (some ⟨b1, 0, none⟩)), (4, .pointer (some ⟨b2, 0, none⟩)), (5, .pointer (some ⟨b3, 0, none⟩)), (7, .int .i64 (k : Int))] _ _
  refine At.seq ?_
  refine At.seq ?_
  refine At.region ?_
  refine At.move rfl rfl ?_
  refine At.fieldAddr rfl fo35_0 rfl ?_
  refine At.load rfl (Ld.ownCell ag22 hb1 (hp).c0) rfl ?_
  refine At.lenSl rfl ((hp).effsAt).okL el22 rfl ?_
  refine At.lss rfl rfl rfl ?_
  refine At.ops0 ?_
  refine At.thenN ?_
  refine At.cond (b := decide ((k : Int) < (p.effs.length : Int))) rfl (fun hc1 => ?_) (fun hc1 => ?_)
  · skip
    have hc1' := of_decide_eq_true hc1
    refine At.skip ?_
    refine At.thenN ?_
    refine At.seq ?_
    refine At.block ?_
    refine At.seq ?_
    refine At.region ?_
    refine At.assign rfl rfl ?_
    refine At.ops0 ?_
    refine At.thenN ?_
    refine At.block ?_
    obtain ⟨u1, hu1⟩ := some_of_lt (l := p.effs) (i := k) (by omega)
    have hlo := ho u1 (List.mem_of_getElem? hu1)
    refine At.loop (Nat) (fun j => [(1, .string s), (2, .pointer (some ⟨b1, 0, none⟩)), (4, .pointer (some ⟨b2, 0, none⟩)), (5, .pointer (some ⟨b3, 0, none⟩)), (7, .int .i64 (k : Int)), (8, .int .i64 (j : Int))]) (fun j w5 => Below w.heap.size w w5 ∧ w5.heap[b1]? = some (.cells p.cs 35) ∧ w5.heap[b2]? = some (.cells #[.string (⟨#[]⟩ : ByteArray), (.slice none 0 0)] 43) ∧ w5.heap[b3]? = some (.cells #[.string (⟨#[]⟩ : ByteArray), .int .i64 0, .string (⟨#[]⟩ : ByteArray), .int .i64 0, (.slice none 0 0), (.slice none 0 0), .int .i64 0, .int .i64 0, .string (⟨#[]⟩ : ByteArray), .int .i64 0, (.slice none 0 0), (.slice none 0 0), .int .i64 0] 45) ∧ (j ≤ u1.ops.length) ∧ (∀ i x, i < j → u1.ops[i]? = some x → opIs s x = false)) (fun j => u1.ops.length - j) (0 : Nat) (Sub.cons rfl (Sub.cons rfl (Sub.cons rfl (Sub.cons rfl (Sub.cons rfl (Sub.cons rfl Sub.nil)))))) ⟨hB, hb1, hb2, hb3, (Nat.zero_le _), (fun j x hj => absurd hj (Nat.not_lt_zero j))⟩ (fun j w5 hI => ?_)
    clear hB hb1 hb2 hb3
    obtain ⟨hB, hb1, hb2, hb3, hk2, hn2⟩ := hI
    show At _ _ [(1, .string s), (2, .pointer (some ⟨b1, 0, none⟩)), (4, .pointer (some ⟨b2, 0, none⟩)), (5, .pointer (some ⟨b3, 0, none⟩)), (7, .int .i64 (k : Int)), (8, .int .i64 (j : Int))] _ _
    refine At.seq ?_
    refine At.seq ?_
    refine At.region ?_
    refine At.move rfl rfl ?_
    refine At.fieldAddr rfl fo35_0 rfl ?_
    refine At.load rfl (Ld.ownCell ag22 hb1 (hp).c0) rfl ?_
    refine At.move rfl rfl ?_
    refine At.indexAddr (i := k) rfl rfl ((hp).effsAt).okL (lt_of_some hu1) el22 sz43 rfl ?_
    refine At.fieldAddr rfl fo43_1 rfl ?_
    refine At.load rfl (Ld.cell ag41 (cell_keep ((((hp).effsAt).row hu1).get (((hp).eff hu1)).c1) hB)) rfl ?_
    refine At.lenSl rfl ((((hp).eff hu1)).opsAt).okL el41 rfl ?_
    refine At.lss rfl rfl rfl ?_
    refine At.ops0 ?_
    refine At.thenN ?_
    refine At.cond (b := decide ((j : Int) < (u1.ops.length : Int))) rfl (fun hc2 => ?_) (fun hc2 => ?_)
    · skip
      have hc2' := of_decide_eq_true hc2
      refine At.skip ?_
      refine At.thenN ?_
      refine At.seq ?_
      refine At.block ?_
      refine At.seq ?_
      refine At.region ?_
      refine At.fieldAddr rfl fo35_0 rfl ?_
      refine At.load rfl (Ld.ownCell ag22 hb1 (hp).c0) rfl ?_
      refine At.move rfl rfl ?_
      refine At.indexAddr (i := k) rfl rfl ((hp).effsAt).okL (lt_of_some hu1) el22 sz43 rfl ?_
      refine At.fieldAddr rfl fo43_1 rfl ?_
      refine At.load rfl (Ld.cell ag41 (cell_keep ((((hp).effsAt).row hu1).get (((hp).eff hu1)).c1) hB)) rfl ?_
      refine At.move rfl rfl ?_
      obtain ⟨u2, hu2⟩ := some_of_lt (l := u1.ops) (i := j) (by omega)
      refine At.indexAddr (i := j) rfl rfl ((((hp).eff hu1)).opsAt).okL (lt_of_some hu2) el41 sz45 rfl ?_
      refine At.fieldAddr rfl fo45_0 rfl ?_
      refine At.load rfl (Ld.cell ag9 (cell_keep ((((((hp).eff hu1)).opsAt).row hu2).get (((((hp).eff hu1)).op hu2)).c0) hB)) rfl ?_
      refine At.move rfl rfl ?_
      refine At.eqS rfl rfl rfl ?_
      refine At.ops0 ?_
      refine At.thenN ?_
      refine At.cond (b := decide (u2.nm = s)) rfl (fun hc3 => ?_) (fun hc3 => ?_)
      · skip
        have hc3' := of_decide_eq_true hc3
        refine At.seq ?_
        refine At.draw mixed [(2, .pointer (some ⟨b1, 0, none⟩)), (4, .pointer (some ⟨b2, 0, none⟩)), (5, .pointer (some ⟨b3, 0, none⟩)), (7, .int .i64 (k : Int)), (8, .int .i64 (j : Int))] (Sub.cons rfl (Sub.cons rfl (Sub.cons rfl (Sub.cons rfl (Sub.cons rfl Sub.nil))))) rfl (RS ([(b2, .cells u1.cs 43), (b3, .cells u2.cs 45)] : List (Nat × Obj))) (dF [.c (.pointer (some ⟨b1, 0 + 0, none⟩)), .c (p.ev), .c (.int .i64 (k : Int)), .c (.pointer (some ⟨vBlock p.ev, vOff p.ev + k * 2, none⟩)), .c (.agg u1.cs), .c (.pointer (some ⟨b1, 0 + 0, none⟩)), .c (p.ev), .c (.int .i64 (k : Int)), .c (.pointer (some ⟨vBlock p.ev, vOff p.ev + k * 2, none⟩)), .c (.pointer (some ⟨vBlock p.ev, vOff p.ev + k * 2 + 1, none⟩)), .c (u1.ov), .c (.int .i64 (j : Int)), .c (.pointer (some ⟨vBlock u1.ov, vOff u1.ov + j * 13, none⟩)), .c (.agg u2.cs), .s b2 (.cells u1.cs 43), .s b3 (.cells u2.cs 45), .c (.bool true)]) (RS.drew _ _) RS.trans (dF.stab (by simp)) ⟨?_, ?_, ?_, ?_, ?_, ?_, ?_, ?_, ?_, ?_, ?_, ?_, ?_, ?_, ?_, ?_, ?_, trivial⟩ (fun vals w' hRS hf => ?_)
        · intro vals Lx w1 hRS hpre
          have hB := RS.below hRS hB (by intro p hp; simp only [List.mem_cons, List.not_mem_nil, or_false] at hp; rcases hp with rfl | rfl <;> assumption)
          have hb1 := hRS.old _ _ (by intro p hp; simp only [List.mem_cons, List.not_mem_nil, or_false] at hp; rcases hp with rfl | rfl; exact n_b1_b2; exact n_b1_b3) hb1
          obtain ⟨c_b2, hb2, z_b2⟩ := hRS.shape (b2, .cells u1.cs 43) (by simp) _ _ hb2
          obtain ⟨c_b3, hb3, z_b3⟩ := hRS.shape (b3, .cells u2.cs 45) (by simp) _ _ hb3
          refine At.fieldAddr rfl fo35_0 rfl ?_
          refine At.ops0 ?_
          exact fun a ha => ⟨_, ha, RS.refl _ _, rfl⟩
        · intro vals Lx w1 hRS hpre
          have hB := RS.below hRS hB (by intro p hp; simp only [List.mem_cons, List.not_mem_nil, or_false] at hp; rcases hp with rfl | rfl <;> assumption)
          have hb1 := hRS.old _ _ (by intro p hp; simp only [List.mem_cons, List.not_mem_nil, or_false] at hp; rcases hp with rfl | rfl; exact n_b1_b2; exact n_b1_b3) hb1
          obtain ⟨c_b2, hb2, z_b2⟩ := hRS.shape (b2, .cells u1.cs 43) (by simp) _ _ hb2
          obtain ⟨c_b3, hb3, z_b3⟩ := hRS.shape (b3, .cells u2.cs 45) (by simp) _ _ hb3
          have p0 : vals 0 = .pointer (some ⟨b1, 0 + 0, none⟩) := hpre 0 (by decide)
          refine At.set (d := 39) (v := vals 0) rfl p0 ?_
          refine At.load rfl (Ld.ownCell ag22 hb1 (hp).c0) rfl ?_
          refine At.ops0 ?_
          exact fun a ha => ⟨_, (ha).drop2 (congrArg some p0), RS.refl _ _, rfl⟩
        · intro vals Lx w1 hRS hpre
          have hB := RS.below hRS hB (by intro p hp; simp only [List.mem_cons, List.not_mem_nil, or_false] at hp; rcases hp with rfl | rfl <;> assumption)
          have hb1 := hRS.old _ _ (by intro p hp; simp only [List.mem_cons, List.not_mem_nil, or_false] at hp; rcases hp with rfl | rfl; exact n_b1_b2; exact n_b1_b3) hb1
          obtain ⟨c_b2, hb2, z_b2⟩ := hRS.shape (b2, .cells u1.cs 43) (by simp) _ _ hb2
          obtain ⟨c_b3, hb3, z_b3⟩ := hRS.shape (b3, .cells u2.cs 45) (by simp) _ _ hb3
          refine At.move rfl rfl ?_
          refine At.ops0 ?_
          exact fun a ha => ⟨_, ha, RS.refl _ _, rfl⟩
        · intro vals Lx w1 hRS hpre
          have hB := RS.below hRS hB (by intro p hp; simp only [List.mem_cons, List.not_mem_nil, or_false] at hp; rcases hp with rfl | rfl <;> assumption)
          have hb1 := hRS.old _ _ (by intro p hp; simp only [List.mem_cons, List.not_mem_nil, or_false] at hp; rcases hp with rfl | rfl; exact n_b1_b2; exact n_b1_b3) hb1
          obtain ⟨c_b2, hb2, z_b2⟩ := hRS.shape (b2, .cells u1.cs 43) (by simp) _ _ hb2
          obtain ⟨c_b3, hb3, z_b3⟩ := hRS.shape (b3, .cells u2.cs 45) (by simp) _ _ hb3
          have p1 : vals 1 = p.ev := hpre 1 (by decide)
          refine At.set (d := 40) (v := vals 1) rfl p1 ?_
          have p2 : vals 2 = .int .i64 (k : Int) := hpre 2 (by decide)
          refine At.set (d := 41) (v := vals 2) rfl p2 ?_
          refine At.indexAddr (i := k) rfl rfl ((hp).effsAt).okL (lt_of_some hu1) el22 sz43 rfl ?_
          refine At.ops0 ?_
          exact fun a ha => ⟨_, ((ha).drop2 (congrArg some p2)).drop2 (congrArg some p1), RS.refl _ _, rfl⟩
        · intro vals Lx w1 hRS hpre
          have hB := RS.below hRS hB (by intro p hp; simp only [List.mem_cons, List.not_mem_nil, or_false] at hp; rcases hp with rfl | rfl <;> assumption)
          have hb1 := hRS.old _ _ (by intro p hp; simp only [List.mem_cons, List.not_mem_nil, or_false] at hp; rcases hp with rfl | rfl; exact n_b1_b2; exact n_b1_b3) hb1
          obtain ⟨c_b2, hb2, z_b2⟩ := hRS.shape (b2, .cells u1.cs 43) (by simp) _ _ hb2
          obtain ⟨c_b3, hb3, z_b3⟩ := hRS.shape (b3, .cells u2.cs 45) (by simp) _ _ hb3
          have p3 : vals 3 = .pointer (some ⟨vBlock p.ev, vOff p.ev + k * 2, none⟩) := hpre 3 (by decide)
          refine At.set (d := 42) (v := vals 3) rfl p3 ?_
          refine At.load rfl (Ld.row ag43 (sz43.trans (congrArg some (((hp).eff hu1)).size.symm)) ((((hp).effsAt).row hu1).keep hB)) rfl ?_
          refine At.ops0 ?_
          exact fun a ha => ⟨_, (ha).drop2 (congrArg some p3), RS.refl _ _, rfl⟩
        · intro vals Lx w1 hRS hpre
          have hB := RS.below hRS hB (by intro p hp; simp only [List.mem_cons, List.not_mem_nil, or_false] at hp; rcases hp with rfl | rfl <;> assumption)
          have hb1 := hRS.old _ _ (by intro p hp; simp only [List.mem_cons, List.not_mem_nil, or_false] at hp; rcases hp with rfl | rfl; exact n_b1_b2; exact n_b1_b3) hb1
          obtain ⟨c_b2, hb2, z_b2⟩ := hRS.shape (b2, .cells u1.cs 43) (by simp) _ _ hb2
          obtain ⟨c_b3, hb3, z_b3⟩ := hRS.shape (b3, .cells u2.cs 45) (by simp) _ _ hb3
          refine At.fieldAddr rfl fo35_0 rfl ?_
          refine At.ops0 ?_
          exact fun a ha => ⟨_, ha, RS.refl _ _, rfl⟩
        · intro vals Lx w1 hRS hpre
          have hB := RS.below hRS hB (by intro p hp; simp only [List.mem_cons, List.not_mem_nil, or_false] at hp; rcases hp with rfl | rfl <;> assumption)
          have hb1 := hRS.old _ _ (by intro p hp; simp only [List.mem_cons, List.not_mem_nil, or_false] at hp; rcases hp with rfl | rfl; exact n_b1_b2; exact n_b1_b3) hb1
          obtain ⟨c_b2, hb2, z_b2⟩ := hRS.shape (b2, .cells u1.cs 43) (by simp) _ _ hb2
          obtain ⟨c_b3, hb3, z_b3⟩ := hRS.shape (b3, .cells u2.cs 45) (by simp) _ _ hb3
          have p5 : vals 5 = .pointer (some ⟨b1, 0 + 0, none⟩) := hpre 5 (by decide)
          refine At.set (d := 44) (v := vals 5) rfl p5 ?_
          refine At.load rfl (Ld.ownCell ag22 hb1 (hp).c0) rfl ?_
          refine At.ops0 ?_
          exact fun a ha => ⟨_, (ha).drop2 (congrArg some p5), RS.refl _ _, rfl⟩
        · intro vals Lx w1 hRS hpre
          have hB := RS.below hRS hB (by intro p hp; simp only [List.mem_cons, List.not_mem_nil, or_false] at hp; rcases hp with rfl | rfl <;> assumption)
          have hb1 := hRS.old _ _ (by intro p hp; simp only [List.mem_cons, List.not_mem_nil, or_false] at hp; rcases hp with rfl | rfl; exact n_b1_b2; exact n_b1_b3) hb1
          obtain ⟨c_b2, hb2, z_b2⟩ := hRS.shape (b2, .cells u1.cs 43) (by simp) _ _ hb2
          obtain ⟨c_b3, hb3, z_b3⟩ := hRS.shape (b3, .cells u2.cs 45) (by simp) _ _ hb3
          refine At.move rfl rfl ?_
          refine At.ops0 ?_
          exact fun a ha => ⟨_, ha, RS.refl _ _, rfl⟩
        · intro vals Lx w1 hRS hpre
          have hB := RS.below hRS hB (by intro p hp; simp only [List.mem_cons, List.not_mem_nil, or_false] at hp; rcases hp with rfl | rfl <;> assumption)
          have hb1 := hRS.old _ _ (by intro p hp; simp only [List.mem_cons, List.not_mem_nil, or_false] at hp; rcases hp with rfl | rfl; exact n_b1_b2; exact n_b1_b3) hb1
          obtain ⟨c_b2, hb2, z_b2⟩ := hRS.shape (b2, .cells u1.cs 43) (by simp) _ _ hb2
          obtain ⟨c_b3, hb3, z_b3⟩ := hRS.shape (b3, .cells u2.cs 45) (by simp) _ _ hb3
          have p6 : vals 6 = p.ev := hpre 6 (by decide)
          refine At.set (d := 45) (v := vals 6) rfl p6 ?_
          have p7 : vals 7 = .int .i64 (k : Int) := hpre 7 (by decide)
          refine At.set (d := 46) (v := vals 7) rfl p7 ?_
          refine At.indexAddr (i := k) rfl rfl ((hp).effsAt).okL (lt_of_some hu1) el22 sz43 rfl ?_
          refine At.ops0 ?_
          exact fun a ha => ⟨_, ((ha).drop2 (congrArg some p7)).drop2 (congrArg some p6), RS.refl _ _, rfl⟩
        · intro vals Lx w1 hRS hpre
          have hB := RS.below hRS hB (by intro p hp; simp only [List.mem_cons, List.not_mem_nil, or_false] at hp; rcases hp with rfl | rfl <;> assumption)
          have hb1 := hRS.old _ _ (by intro p hp; simp only [List.mem_cons, List.not_mem_nil, or_false] at hp; rcases hp with rfl | rfl; exact n_b1_b2; exact n_b1_b3) hb1
          obtain ⟨c_b2, hb2, z_b2⟩ := hRS.shape (b2, .cells u1.cs 43) (by simp) _ _ hb2
          obtain ⟨c_b3, hb3, z_b3⟩ := hRS.shape (b3, .cells u2.cs 45) (by simp) _ _ hb3
          have p8 : vals 8 = .pointer (some ⟨vBlock p.ev, vOff p.ev + k * 2, none⟩) := hpre 8 (by decide)
          refine At.set (d := 47) (v := vals 8) rfl p8 ?_
          refine At.fieldAddr rfl fo43_1 rfl ?_
          refine At.ops0 ?_
          exact fun a ha => ⟨_, (ha).drop2 (congrArg some p8), RS.refl _ _, rfl⟩
        · intro vals Lx w1 hRS hpre
          have hB := RS.below hRS hB (by intro p hp; simp only [List.mem_cons, List.not_mem_nil, or_false] at hp; rcases hp with rfl | rfl <;> assumption)
          have hb1 := hRS.old _ _ (by intro p hp; simp only [List.mem_cons, List.not_mem_nil, or_false] at hp; rcases hp with rfl | rfl; exact n_b1_b2; exact n_b1_b3) hb1
          obtain ⟨c_b2, hb2, z_b2⟩ := hRS.shape (b2, .cells u1.cs 43) (by simp) _ _ hb2
          obtain ⟨c_b3, hb3, z_b3⟩ := hRS.shape (b3, .cells u2.cs 45) (by simp) _ _ hb3
          have p9 : vals 9 = .pointer (some ⟨vBlock p.ev, vOff p.ev + k * 2 + 1, none⟩) := hpre 9 (by decide)
          refine At.set (d := 48) (v := vals 9) rfl p9 ?_
          refine At.load rfl (Ld.cell ag41 (cell_keep ((((hp).effsAt).row hu1).get (((hp).eff hu1)).c1) hB)) rfl ?_
          refine At.ops0 ?_
          exact fun a ha => ⟨_, (ha).drop2 (congrArg some p9), RS.refl _ _, rfl⟩
        · intro vals Lx w1 hRS hpre
          have hB := RS.below hRS hB (by intro p hp; simp only [List.mem_cons, List.not_mem_nil, or_false] at hp; rcases hp with rfl | rfl <;> assumption)
          have hb1 := hRS.old _ _ (by intro p hp; simp only [List.mem_cons, List.not_mem_nil, or_false] at hp; rcases hp with rfl | rfl; exact n_b1_b2; exact n_b1_b3) hb1
          obtain ⟨c_b2, hb2, z_b2⟩ := hRS.shape (b2, .cells u1.cs 43) (by simp) _ _ hb2
          obtain ⟨c_b3, hb3, z_b3⟩ := hRS.shape (b3, .cells u2.cs 45) (by simp) _ _ hb3
          refine At.move rfl rfl ?_
          refine At.ops0 ?_
          exact fun a ha => ⟨_, ha, RS.refl _ _, rfl⟩
        · intro vals Lx w1 hRS hpre
          have hB := RS.below hRS hB (by intro p hp; simp only [List.mem_cons, List.not_mem_nil, or_false] at hp; rcases hp with rfl | rfl <;> assumption)
          have hb1 := hRS.old _ _ (by intro p hp; simp only [List.mem_cons, List.not_mem_nil, or_false] at hp; rcases hp with rfl | rfl; exact n_b1_b2; exact n_b1_b3) hb1
          obtain ⟨c_b2, hb2, z_b2⟩ := hRS.shape (b2, .cells u1.cs 43) (by simp) _ _ hb2
          obtain ⟨c_b3, hb3, z_b3⟩ := hRS.shape (b3, .cells u2.cs 45) (by simp) _ _ hb3
          have p10 : vals 10 = u1.ov := hpre 10 (by decide)
          refine At.set (d := 49) (v := vals 10) rfl p10 ?_
          have p11 : vals 11 = .int .i64 (j : Int) := hpre 11 (by decide)
          refine At.set (d := 50) (v := vals 11) rfl p11 ?_
          refine At.indexAddr (i := j) rfl rfl ((((hp).eff hu1)).opsAt).okL (lt_of_some hu2) el41 sz45 rfl ?_
          refine At.ops0 ?_
          exact fun a ha => ⟨_, ((ha).drop2 (congrArg some p11)).drop2 (congrArg some p10), RS.refl _ _, rfl⟩
        · intro vals Lx w1 hRS hpre
          have hB := RS.below hRS hB (by intro p hp; simp only [List.mem_cons, List.not_mem_nil, or_false] at hp; rcases hp with rfl | rfl <;> assumption)
          have hb1 := hRS.old _ _ (by intro p hp; simp only [List.mem_cons, List.not_mem_nil, or_false] at hp; rcases hp with rfl | rfl; exact n_b1_b2; exact n_b1_b3) hb1
          obtain ⟨c_b2, hb2, z_b2⟩ := hRS.shape (b2, .cells u1.cs 43) (by simp) _ _ hb2
          obtain ⟨c_b3, hb3, z_b3⟩ := hRS.shape (b3, .cells u2.cs 45) (by simp) _ _ hb3
          have p12 : vals 12 = .pointer (some ⟨vBlock u1.ov, vOff u1.ov + j * 13, none⟩) := hpre 12 (by decide)
          refine At.set (d := 51) (v := vals 12) rfl p12 ?_
          refine At.load rfl (Ld.row ag45 (sz45.trans (congrArg some (((((hp).eff hu1)).op hu2)).size.symm)) ((((((hp).eff hu1)).opsAt).row hu2).keep hB)) rfl ?_
          refine At.ops0 ?_
          exact fun a ha => ⟨_, (ha).drop2 (congrArg some p12), RS.refl _ _, rfl⟩
        · intro vals Lx w1 hRS hpre
          have hB := RS.below hRS hB (by intro p hp; simp only [List.mem_cons, List.not_mem_nil, or_false] at hp; rcases hp with rfl | rfl <;> assumption)
          have hb1 := hRS.old _ _ (by intro p hp; simp only [List.mem_cons, List.not_mem_nil, or_false] at hp; rcases hp with rfl | rfl; exact n_b1_b2; exact n_b1_b3) hb1
          obtain ⟨c_b2, hb2, z_b2⟩ := hRS.shape (b2, .cells u1.cs 43) (by simp) _ _ hb2
          obtain ⟨c_b3, hb3, z_b3⟩ := hRS.shape (b3, .cells u2.cs 45) (by simp) _ _ hb3
          have p4 : vals 4 = .agg u1.cs := hpre 4 (by decide)
          refine At.set (d := 43) (v := vals 4) rfl p4 ?_
          have p0 : vals 0 = .pointer (some ⟨b1, 0 + 0, none⟩) := hpre 0 (by decide)
          refine At.set (d := 39) (v := vals 0) rfl p0 ?_
          have p1 : vals 1 = p.ev := hpre 1 (by decide)
          refine At.set (d := 40) (v := vals 1) rfl p1 ?_
          have p2 : vals 2 = .int .i64 (k : Int) := hpre 2 (by decide)
          refine At.set (d := 41) (v := vals 2) rfl p2 ?_
          have p3 : vals 3 = .pointer (some ⟨vBlock p.ev, vOff p.ev + k * 2, none⟩) := hpre 3 (by decide)
          refine At.set (d := 42) (v := vals 3) rfl p3 ?_
          have hb2_old := hb2
          have z_b2_eq := ((z_b2.trans ((((hp).eff hu1)).size.symm))).symm
          refine At.storeAll rfl rfl hb2 (sz43.trans (congrArg some (((hp).eff hu1)).size.symm)) (z_b2.trans ((((hp).eff hu1)).size.symm)) (((hp).eff hu1)).one (fun w6 S1 => ?_)
          replace hb1 := S1.other hb1 n_b1_b2
          replace hb3 := S1.other hb3 n_b2_b3.symm
          replace hb2 : w6.heap[b2]? = some (.cells u1.cs 43) := S1.new
          replace hB := S1.below' hB gb2
          refine At.ops0 ?_
          exact fun a ha => ⟨undef, (((((ha).drop1 (congrArg some p3)).drop1 (congrArg some p2)).drop1 (congrArg some p1)).drop1 (congrArg some p0)).drop1 (congrArg some p4), RS.of_set S1 (by simp) hb2_old (z_b2_eq) (by intro p hp e; simp only [List.mem_cons, List.not_mem_nil, or_false] at hp; rcases hp with rfl | rfl <;> first | rfl | (exfalso; revert e; assumption) | (exfalso; exact absurd e.symm (by assumption))), hb2⟩
        · intro vals Lx w1 hRS hpre
          have hB := RS.below hRS hB (by intro p hp; simp only [List.mem_cons, List.not_mem_nil, or_false] at hp; rcases hp with rfl | rfl <;> assumption)
          have hb1 := hRS.old _ _ (by intro p hp; simp only [List.mem_cons, List.not_mem_nil, or_false] at hp; rcases hp with rfl | rfl; exact n_b1_b2; exact n_b1_b3) hb1
          obtain ⟨c_b2, hb2, z_b2⟩ := hRS.shape (b2, .cells u1.cs 43) (by simp) _ _ hb2
          obtain ⟨c_b3, hb3, z_b3⟩ := hRS.shape (b3, .cells u2.cs 45) (by simp) _ _ hb3
          have p13 : vals 13 = .agg u2.cs := hpre 13 (by decide)
          refine At.set (d := 52) (v := vals 13) rfl p13 ?_
          have p0 : vals 0 = .pointer (some ⟨b1, 0 + 0, none⟩) := hpre 0 (by decide)
          refine At.set (d := 39) (v := vals 0) rfl p0 ?_
          have p1 : vals 1 = p.ev := hpre 1 (by decide)
          refine At.set (d := 40) (v := vals 1) rfl p1 ?_
          have p2 : vals 2 = .int .i64 (k : Int) := hpre 2 (by decide)
          refine At.set (d := 41) (v := vals 2) rfl p2 ?_
          have p3 : vals 3 = .pointer (some ⟨vBlock p.ev, vOff p.ev + k * 2, none⟩) := hpre 3 (by decide)
          refine At.set (d := 42) (v := vals 3) rfl p3 ?_
          have p4 : vals 4 = .agg u1.cs := hpre 4 (by decide)
          refine At.set (d := 43) (v := vals 4) rfl p4 ?_
          have p5 : vals 5 = .pointer (some ⟨b1, 0 + 0, none⟩) := hpre 5 (by decide)
          refine At.set (d := 44) (v := vals 5) rfl p5 ?_
          have p6 : vals 6 = p.ev := hpre 6 (by decide)
          refine At.set (d := 45) (v := vals 6) rfl p6 ?_
          have p7 : vals 7 = .int .i64 (k : Int) := hpre 7 (by decide)
          refine At.set (d := 46) (v := vals 7) rfl p7 ?_
          have p8 : vals 8 = .pointer (some ⟨vBlock p.ev, vOff p.ev + k * 2, none⟩) := hpre 8 (by decide)
          refine At.set (d := 47) (v := vals 8) rfl p8 ?_
          have p9 : vals 9 = .pointer (some ⟨vBlock p.ev, vOff p.ev + k * 2 + 1, none⟩) := hpre 9 (by decide)
          refine At.set (d := 48) (v := vals 9) rfl p9 ?_
          have p10 : vals 10 = u1.ov := hpre 10 (by decide)
          refine At.set (d := 49) (v := vals 10) rfl p10 ?_
          have p11 : vals 11 = .int .i64 (j : Int) := hpre 11 (by decide)
          refine At.set (d := 50) (v := vals 11) rfl p11 ?_
          have p12 : vals 12 = .pointer (some ⟨vBlock u1.ov, vOff u1.ov + j * 13, none⟩) := hpre 12 (by decide)
          refine At.set (d := 51) (v := vals 12) rfl p12 ?_
          have hb3_old := hb3
          have z_b3_eq := ((z_b3.trans ((((((hp).eff hu1)).op hu2)).size.symm))).symm
          refine At.storeAll rfl rfl hb3 (sz45.trans (congrArg some (((((hp).eff hu1)).op hu2)).size.symm)) (z_b3.trans ((((((hp).eff hu1)).op hu2)).size.symm)) (((((hp).eff hu1)).op hu2)).one (fun w7 S2 => ?_)
          replace hb1 := S2.other hb1 n_b1_b3
          replace hb2 := S2.other hb2 n_b2_b3
          replace hb3 : w7.heap[b3]? = some (.cells u2.cs 45) := S2.new
          replace hB := S2.below' hB gb3
          refine At.ops0 ?_
          exact fun a ha => ⟨undef, ((((((((((((((ha).drop1 (congrArg some p12)).drop1 (congrArg some p11)).drop1 (congrArg some p10)).drop1 (congrArg some p9)).drop1 (congrArg some p8)).drop1 (congrArg some p7)).drop1 (congrArg some p6)).drop1 (congrArg some p5)).drop1 (congrArg some p4)).drop1 (congrArg some p3)).drop1 (congrArg some p2)).drop1 (congrArg some p1)).drop1 (congrArg some p0)).drop1 (congrArg some p13), RS.of_set S2 (by simp) hb3_old (z_b3_eq) (by intro p hp e; simp only [List.mem_cons, List.not_mem_nil, or_false] at hp; rcases hp with rfl | rfl <;> first | rfl | (exfalso; revert e; assumption) | (exfalso; exact absurd e.symm (by assumption))), hb3⟩
        · intro vals Lx w1 hRS hpre
          have hB := RS.below hRS hB (by intro p hp; simp only [List.mem_cons, List.not_mem_nil, or_false] at hp; rcases hp with rfl | rfl <;> assumption)
          have hb1 := hRS.old _ _ (by intro p hp; simp only [List.mem_cons, List.not_mem_nil, or_false] at hp; rcases hp with rfl | rfl; exact n_b1_b2; exact n_b1_b3) hb1
          obtain ⟨c_b2, hb2, z_b2⟩ := hRS.shape (b2, .cells u1.cs 43) (by simp) _ _ hb2
          obtain ⟨c_b3, hb3, z_b3⟩ := hRS.shape (b3, .cells u2.cs 45) (by simp) _ _ hb3
          have p0 : vals 0 = .pointer (some ⟨b1, 0 + 0, none⟩) := hpre 0 (by decide)
          refine At.set (d := 39) (v := vals 0) rfl p0 ?_
          have p1 : vals 1 = p.ev := hpre 1 (by decide)
          refine At.set (d := 40) (v := vals 1) rfl p1 ?_
          have p2 : vals 2 = .int .i64 (k : Int) := hpre 2 (by decide)
          refine At.set (d := 41) (v := vals 2) rfl p2 ?_
          have p3 : vals 3 = .pointer (some ⟨vBlock p.ev, vOff p.ev + k * 2, none⟩) := hpre 3 (by decide)
          refine At.set (d := 42) (v := vals 3) rfl p3 ?_
          have p4 : vals 4 = .agg u1.cs := hpre 4 (by decide)
          refine At.set (d := 43) (v := vals 4) rfl p4 ?_
          have p5 : vals 5 = .pointer (some ⟨b1, 0 + 0, none⟩) := hpre 5 (by decide)
          refine At.set (d := 44) (v := vals 5) rfl p5 ?_
          have p6 : vals 6 = p.ev := hpre 6 (by decide)
          refine At.set (d := 45) (v := vals 6) rfl p6 ?_
          have p7 : vals 7 = .int .i64 (k : Int) := hpre 7 (by decide)
          refine At.set (d := 46) (v := vals 7) rfl p7 ?_
          have p8 : vals 8 = .pointer (some ⟨vBlock p.ev, vOff p.ev + k * 2, none⟩) := hpre 8 (by decide)
          refine At.set (d := 47) (v := vals 8) rfl p8 ?_
          have p9 : vals 9 = .pointer (some ⟨vBlock p.ev, vOff p.ev + k * 2 + 1, none⟩) := hpre 9 (by decide)
          refine At.set (d := 48) (v := vals 9) rfl p9 ?_
          have p10 : vals 10 = u1.ov := hpre 10 (by decide)
          refine At.set (d := 49) (v := vals 10) rfl p10 ?_
          have p11 : vals 11 = .int .i64 (j : Int) := hpre 11 (by decide)
          refine At.set (d := 50) (v := vals 11) rfl p11 ?_
          have p12 : vals 12 = .pointer (some ⟨vBlock u1.ov, vOff u1.ov + j * 13, none⟩) := hpre 12 (by decide)
          refine At.set (d := 51) (v := vals 12) rfl p12 ?_
          have p13 : vals 13 = .agg u2.cs := hpre 13 (by decide)
          refine At.set (d := 52) (v := vals 13) rfl p13 ?_
          refine At.assign rfl rfl ?_
          refine At.ops0 ?_
          exact fun a ha => ⟨_, ((((((((((((((ha).drop2 (congrArg some p13)).drop2 (congrArg some p12)).drop2 (congrArg some p11)).drop2 (congrArg some p10)).drop2 (congrArg some p9)).drop2 (congrArg some p8)).drop2 (congrArg some p7)).drop2 (congrArg some p6)).drop2 (congrArg some p5)).drop2 (congrArg some p4)).drop2 (congrArg some p3)).drop2 (congrArg some p2)).drop2 (congrArg some p1)).drop2 (congrArg some p0), RS.refl _ _, rfl⟩
        · skip
          have hB := RS.below hRS hB (by intro p hp; simp only [List.mem_cons, List.not_mem_nil, or_false] at hp; rcases hp with rfl | rfl <;> assumption)
          have hb1 := hRS.old _ _ (by intro p hp; simp only [List.mem_cons, List.not_mem_nil, or_false] at hp; rcases hp with rfl | rfl; exact n_b1_b2; exact n_b1_b3) hb1
          have hb2 : w'.heap[b2]? = some (.cells u1.cs 43) := hf 14 (by decide)
          have hb3 : w'.heap[b3]? = some (.cells u2.cs 45) := hf 15 (by decide)
          have p16 : vals 16 = .bool true := hf 16 (by decide)
          refine At.sub (L' := [(2, .pointer (some ⟨b1, 0, none⟩)), (4, .pointer (some ⟨b2, 0, none⟩)), (5, .pointer (some ⟨b3, 0, none⟩)), (7, .int .i64 (k : Int)), (8, .int .i64 (j : Int)), (6, .bool true)]) (Sub.cons rfl (Sub.cons rfl (Sub.cons rfl (Sub.cons rfl (Sub.cons rfl (Sub.cons (congrArg some p16) Sub.nil)))))) ?_
          refine At.thenN ?_
          refine At.retc ?_
          refine At.inR ?_
          refine At.thenR ?_
          refine At.thenR ?_
          refine At.inR ?_
          refine At.inR ?_
          refine At.thenR ?_
          refine At.thenR ?_
          refine At.inR ?_
          refine At.thenR ?_
          refine At.doneR (ResV.cell rfl (Ld.own ag43 (sz43.trans (congrArg some (((hp).eff hu1)).size.symm)) hb2) (ResV.cell rfl (Ld.own ag45 (sz45.trans (congrArg some (((((hp).eff hu1)).op hu2)).size.symm)) hb3) (ResV.tmp rfl ResV.nil))) ?_
          have hq : findEff p.effs s = some (u1, u2) := findSome_yes hu1 (by simp [opIn, find_yes (p := opIs s) hu2 (by simpa [opIs] using hc3') hn2]) hn
          exact ⟨by rw [hq]; rfl, hB⟩
      · skip
        have hc3' := of_decide_eq_false hc3
        refine At.skip ?_
        refine At.inN ?_
        refine At.thenN ?_
        refine At.region ?_
        refine At.move rfl rfl ?_
        refine At.addI rfl rfl rfl (by omega) ?_
        refine At.assign rfl rfl ?_
        refine At.ops0 ?_
        refine At.thenN ?_
        exact fun a ha => ⟨(j + 1), ha.sub (Sub.cons rfl (Sub.cons rfl (Sub.cons rfl (Sub.cons rfl (Sub.cons rfl (Sub.cons rfl Sub.nil)))))), ⟨hB, hb1, hb2, hb3, (by omega), (next_no hn2 hu2 (by simpa [opIs] using hc3'))⟩, by first | omega | (dsimp only; omega)⟩
    · skip
      have hc2' := of_decide_eq_false hc2
      refine At.exit ?_
      refine At.thenE ?_
      refine At.thenE ?_
      refine At.inE ?_
      refine At.inN ?_
      refine At.thenN ?_
      refine At.region ?_
      refine At.move rfl rfl ?_
      refine At.addI rfl rfl rfl (by omega) ?_
      refine At.assign rfl rfl ?_
      refine At.ops0 ?_
      refine At.thenN ?_
      exact fun a ha => ⟨(k + 1), ha.sub (Sub.cons rfl (Sub.cons rfl (Sub.cons rfl (Sub.cons rfl (Sub.cons rfl Sub.nil))))), ⟨hB, hb1, hb2, hb3, (by omega), (next_none hn hu1 (by simp [opIn, find_no (p := opIs s) (l := u1.ops) (by omega) hn2]))⟩, by first | omega | (dsimp only; omega)⟩
  · skip
    have hc1' := of_decide_eq_false hc1
    refine At.exit ?_
    refine At.thenE ?_
    refine At.thenE ?_
    refine At.inE ?_
    refine At.thenN ?_
    refine At.seq ?_
    refine At.region ?_
    refine At.build (C := #[.string (⟨#[]⟩ : ByteArray), (.slice none 0 0)]) sd43 ze43 rfl (Bld.nil _) rfl ?_
    refine At.build (C := #[.string (⟨#[]⟩ : ByteArray), .int .i64 0, .string (⟨#[]⟩ : ByteArray), .int .i64 0, (.slice none 0 0), (.slice none 0 0), .int .i64 0, .int .i64 0, .string (⟨#[]⟩ : ByteArray), .int .i64 0, (.slice none 0 0), (.slice none 0 0), .int .i64 0]) sd45 ze45 rfl (Bld.nil _) rfl ?_
    refine At.storeAll rfl rfl hb2 sz43 rfl (by simp [Value.oneCell', ((SlOk.nil)).one]) (fun w9 S3 => ?_)
    replace hb1 := S3.other hb1 n_b1_b2
    replace hb3 := S3.other hb3 n_b2_b3.symm
    replace hb2 : w9.heap[b2]? = some (.cells #[.string (⟨#[]⟩ : ByteArray), (.slice none 0 0)] 43) := S3.new
    replace hB := S3.below' hB gb2
    refine At.storeAll rfl rfl hb3 sz45 rfl (by simp [Value.oneCell', ((SlOk.nil)).one, ((SlOk.nil)).one, ((SlOk.nil)).one, ((SlOk.nil)).one]) (fun w10 S4 => ?_)
    replace hb1 := S4.other hb1 n_b1_b3
    replace hb2 := S4.other hb2 n_b2_b3
    replace hb3 : w10.heap[b3]? = some (.cells #[.string (⟨#[]⟩ : ByteArray), .int .i64 0, .string (⟨#[]⟩ : ByteArray), .int .i64 0, (.slice none 0 0), (.slice none 0 0), .int .i64 0, .int .i64 0, .string (⟨#[]⟩ : ByteArray), .int .i64 0, (.slice none 0 0), (.slice none 0 0), .int .i64 0] 45) := S4.new
    replace hB := S4.below' hB gb3
    refine At.assign rfl rfl ?_
    refine At.ops0 ?_
    refine At.thenN ?_
    refine At.retc ?_
    refine At.doneR (ResV.cell rfl (Ld.own (C := #[.string (⟨#[]⟩ : ByteArray), (.slice none 0 0)]) ag43 sz43 hb2) (ResV.cell rfl (Ld.own (C := #[.string (⟨#[]⟩ : ByteArray), .int .i64 0, .string (⟨#[]⟩ : ByteArray), .int .i64 0, (.slice none 0 0), (.slice none 0 0), .int .i64 0, .int .i64 0, .string (⟨#[]⟩ : ByteArray), .int .i64 0, (.slice none 0 0), (.slice none 0 0), .int .i64 0]) ag45 sz45 hb3) (ResV.tmp rfl ResV.nil))) ?_
    have hq : findEff p.effs s = none := findSome_no (by omega) hn
    exact ⟨by rw [hq]; rfl, hB⟩
theorem refCon_any (p : Pr) (s : ByteArray) (w : World) (hp : PrOk w p) (hl : p.effs.length ≤ 9223372036854775807 ∧ p.dats.length ≤ 9223372036854775807) (ho : ∀ e ∈ p.effs, e.ops.length ≤ 9223372036854775807) (hc : ∀ d ∈ p.dats, d.cons.length ≤ 9223372036854775807) :
    Calls Try.prog 19 ([.agg p.cs, .string s] : List Value).toArray w fun e w' => e = .returned (conV (findCon p.dats s)) ∧ Below w.heap.size w w' := by
  have hB := Below.refl w.heap.size w
  refine At.enter (N := 55) Try.func19 rfl rfl (by simp) [(0, .agg p.cs), (1, .string s)] (by simp) ?_
  refine At.seq ?_
  refine At.region ?_
  refine At.box rfl rfl (fun b1 w1 F1 => ?_)
  have gb1 := F1.ge hB
  have hb1 : w1.heap[b1]? = some (.cells p.cs 35) := F1.new
  replace hB := F1.below' hB
  refine At.alloc ze52 rfl (fun b2 w2 F2 => ?_)
  have n_b1_b2 : b1 ≠ b2 := Nat.ne_of_lt (F2.lt hb1)
  have gb2 := F2.ge hB
  replace hb1 := F2.old hb1
  have hb2 : w2.heap[b2]? = some (.cells #[.string (⟨#[]⟩ : ByteArray), (.slice none 0 0)] 52) := F2.new
  replace hB := F2.below' hB
  refine At.alloc ze54 rfl (fun b3 w3 F3 => ?_)
  have n_b1_b3 : b1 ≠ b3 := Nat.ne_of_lt (F3.lt hb1)
  have n_b2_b3 : b2 ≠ b3 := Nat.ne_of_lt (F3.lt hb2)
  have gb3 := F3.ge hB
  replace hb1 := F3.old hb1
  replace hb2 := F3.old hb2
  have hb3 : w3.heap[b3]? = some (.cells #[.string (⟨#[]⟩ : ByteArray), (.slice none 0 0)] 54) := F3.new
  replace hB := F3.below' hB
  refine At.assign rfl rfl ?_
  refine At.ops0 ?_
  refine At.thenN ?_
  refine At.seq ?_
  refine At.seq ?_
  refine At.region ?_
  refine At.assign rfl rfl ?_
  refine At.ops0 ?_
  refine At.thenN ?_
  refine At.block ?_
  refine At.loop (Nat) (fun k => [(1, .string s), (2, .pointer (some ⟨b1, 0, none⟩)), (4, .pointer (some ⟨b2, 0, none⟩)), (5, .pointer (some ⟨b3, 0, none⟩)), (7, .int .i64 (k : Int))]) (fun k w4 => Below w.heap.size w w4 ∧ w4.heap[b1]? = some (.cells p.cs 35) ∧ w4.heap[b2]? = some (.cells #[.string (⟨#[]⟩ : ByteArray), (.slice none 0 0)] 52) ∧ w4.heap[b3]? = some (.cells #[.string (⟨#[]⟩ : ByteArray), (.slice none 0 0)] 54) ∧ (k ≤ p.dats.length) ∧ (∀ i x, i < k → p.dats[i]? = some x → conIn s x = none)) (fun k => p.dats.length - k) (0 : Nat) (Sub.cons rfl (Sub.cons rfl (Sub.cons rfl (Sub.cons rfl (Sub.cons rfl Sub.nil))))) ⟨hB, hb1, hb2, hb3, (Nat.zero_le _), (fun j x hj => absurd hj (Nat.not_lt_zero j))⟩ (fun k w4 hI => ?_)
  clear hB hb1 hb2 hb3
  obtain ⟨hB, hb1, hb2, hb3, hk, hn⟩ := hI
  show At _ _ [(1, .string s), (2, .pointer (some ⟨b1, 0, none⟩)), (4, .pointer (some ⟨b2, 0, none⟩)), (5, .pointer (some ⟨b3, 0, none⟩)), (7, .int .i64 (k : Int))] _ _
  refine At.seq ?_
  refine At.seq ?_
  refine At.region ?_
  refine At.move rfl rfl ?_
  refine At.fieldAddr rfl fo35_1 rfl ?_
  refine At.load rfl (Ld.ownCell ag23 hb1 (hp).c1) rfl ?_
  refine At.lenSl rfl ((hp).datsAt).okL el23 rfl ?_
  refine At.lss rfl rfl rfl ?_
  refine At.ops0 ?_
  refine At.thenN ?_
  refine At.cond (b := decide ((k : Int) < (p.dats.length : Int))) rfl (fun hc1 => ?_) (fun hc1 => ?_)
  · skip
    have hc1' := of_decide_eq_true hc1
    refine At.skip ?_
    refine At.thenN ?_
    refine At.seq ?_
    refine At.block ?_
    refine At.seq ?_
    refine At.region ?_
    refine At.assign rfl rfl ?_
    refine At.ops0 ?_
    refine At.thenN ?_
    refine At.block ?_
    obtain ⟨u1, hu1⟩ := some_of_lt (l := p.dats) (i := k) (by omega)
    have hlo := hc u1 (List.mem_of_getElem? hu1)
    refine At.loop (Nat) (fun j => [(1, .string s), (2, .pointer (some ⟨b1, 0, none⟩)), (4, .pointer (some ⟨b2, 0, none⟩)), (5, .pointer (some ⟨b3, 0, none⟩)), (7, .int .i64 (k : Int)), (8, .int .i64 (j : Int))]) (fun j w5 => Below w.heap.size w w5 ∧ w5.heap[b1]? = some (.cells p.cs 35) ∧ w5.heap[b2]? = some (.cells #[.string (⟨#[]⟩ : ByteArray), (.slice none 0 0)] 52) ∧ w5.heap[b3]? = some (.cells #[.string (⟨#[]⟩ : ByteArray), (.slice none 0 0)] 54) ∧ (j ≤ u1.cons.length) ∧ (∀ i x, i < j → u1.cons[i]? = some x → cnIs s x = false)) (fun j => u1.cons.length - j) (0 : Nat) (Sub.cons rfl (Sub.cons rfl (Sub.cons rfl (Sub.cons rfl (Sub.cons rfl (Sub.cons rfl Sub.nil)))))) ⟨hB, hb1, hb2, hb3, (Nat.zero_le _), (fun j x hj => absurd hj (Nat.not_lt_zero j))⟩ (fun j w5 hI => ?_)
    clear hB hb1 hb2 hb3
    obtain ⟨hB, hb1, hb2, hb3, hk2, hn2⟩ := hI
    show At _ _ [(1, .string s), (2, .pointer (some ⟨b1, 0, none⟩)), (4, .pointer (some ⟨b2, 0, none⟩)), (5, .pointer (some ⟨b3, 0, none⟩)), (7, .int .i64 (k : Int)), (8, .int .i64 (j : Int))] _ _
    refine At.seq ?_
    refine At.seq ?_
    refine At.region ?_
    refine At.move rfl rfl ?_
    refine At.fieldAddr rfl fo35_1 rfl ?_
    refine At.load rfl (Ld.ownCell ag23 hb1 (hp).c1) rfl ?_
    refine At.move rfl rfl ?_
    refine At.indexAddr (i := k) rfl rfl ((hp).datsAt).okL (lt_of_some hu1) el23 sz52 rfl ?_
    refine At.fieldAddr rfl fo52_1 rfl ?_
    refine At.load rfl (Ld.cell ag50 (cell_keep ((((hp).datsAt).row hu1).get (((hp).dat hu1)).c1) hB)) rfl ?_
    refine At.lenSl rfl ((((hp).dat hu1)).consAt).okL el50 rfl ?_
    refine At.lss rfl rfl rfl ?_
    refine At.ops0 ?_
    refine At.thenN ?_
    refine At.cond (b := decide ((j : Int) < (u1.cons.length : Int))) rfl (fun hc2 => ?_) (fun hc2 => ?_)
    · skip
      have hc2' := of_decide_eq_true hc2
      refine At.skip ?_
      refine At.thenN ?_
      refine At.seq ?_
      refine At.block ?_
      refine At.seq ?_
      refine At.region ?_
      refine At.fieldAddr rfl fo35_1 rfl ?_
      refine At.load rfl (Ld.ownCell ag23 hb1 (hp).c1) rfl ?_
      refine At.move rfl rfl ?_
      refine At.indexAddr (i := k) rfl rfl ((hp).datsAt).okL (lt_of_some hu1) el23 sz52 rfl ?_
      refine At.fieldAddr rfl fo52_1 rfl ?_
      refine At.load rfl (Ld.cell ag50 (cell_keep ((((hp).datsAt).row hu1).get (((hp).dat hu1)).c1) hB)) rfl ?_
      refine At.move rfl rfl ?_
      obtain ⟨u2, hu2⟩ := some_of_lt (l := u1.cons) (i := j) (by omega)
      refine At.indexAddr (i := j) rfl rfl ((((hp).dat hu1)).consAt).okL (lt_of_some hu2) el50 sz54 rfl ?_
      refine At.fieldAddr rfl fo54_0 rfl ?_
      refine At.load rfl (Ld.cell ag9 (cell_keep ((((((hp).dat hu1)).consAt).row hu2).get (((((hp).dat hu1)).con hu2)).c0) hB)) rfl ?_
      refine At.move rfl rfl ?_
      refine At.eqS rfl rfl rfl ?_
      refine At.ops0 ?_
      refine At.thenN ?_
      refine At.cond (b := decide (u2.nm = s)) rfl (fun hc3 => ?_) (fun hc3 => ?_)
      · skip
        have hc3' := of_decide_eq_true hc3
        refine At.seq ?_
        refine At.draw mixed [(2, .pointer (some ⟨b1, 0, none⟩)), (4, .pointer (some ⟨b2, 0, none⟩)), (5, .pointer (some ⟨b3, 0, none⟩)), (7, .int .i64 (k : Int)), (8, .int .i64 (j : Int))] (Sub.cons rfl (Sub.cons rfl (Sub.cons rfl (Sub.cons rfl (Sub.cons rfl Sub.nil))))) rfl (RS ([(b2, .cells u1.cs 52), (b3, .cells u2.cs 54)] : List (Nat × Obj))) (dF [.c (.pointer (some ⟨b1, 0 + 1, none⟩)), .c (p.dv), .c (.int .i64 (k : Int)), .c (.pointer (some ⟨vBlock p.dv, vOff p.dv + k * 2, none⟩)), .c (.agg u1.cs), .c (.pointer (some ⟨b1, 0 + 1, none⟩)), .c (p.dv), .c (.int .i64 (k : Int)), .c (.pointer (some ⟨vBlock p.dv, vOff p.dv + k * 2, none⟩)), .c (.pointer (some ⟨vBlock p.dv, vOff p.dv + k * 2 + 1, none⟩)), .c (u1.cv), .c (.int .i64 (j : Int)), .c (.pointer (some ⟨vBlock u1.cv, vOff u1.cv + j * 2, none⟩)), .c (.agg u2.cs), .s b2 (.cells u1.cs 52), .s b3 (.cells u2.cs 54), .c (.bool true)]) (RS.drew _ _) RS.trans (dF.stab (by simp)) ⟨?_, ?_, ?_, ?_, ?_, ?_, ?_, ?_, ?_, ?_, ?_, ?_, ?_, ?_, ?_, ?_, ?_, trivial⟩ (fun vals w' hRS hf => ?_)
        · intro vals Lx w1 hRS hpre
          have hB := RS.below hRS hB (by intro p hp; simp only [List.mem_cons, List.not_mem_nil, or_false] at hp; rcases hp with rfl | rfl <;> assumption)
          have hb1 := hRS.old _ _ (by intro p hp; simp only [List.mem_cons, List.not_mem_nil, or_false] at hp; rcases hp with rfl | rfl; exact n_b1_b2; exact n_b1_b3) hb1
          obtain ⟨c_b2, hb2, z_b2⟩ := hRS.shape (b2, .cells u1.cs 52) (by simp) _ _ hb2
          obtain ⟨c_b3, hb3, z_b3⟩ := hRS.shape (b3, .cells u2.cs 54) (by simp) _ _ hb3
          refine At.fieldAddr rfl fo35_1 rfl ?_
          refine At.ops0 ?_
          exact fun a ha => ⟨_, ha, RS.refl _ _, rfl⟩
        · intro vals Lx w1 hRS hpre
          have hB := RS.below hRS hB (by intro p hp; simp only [List.mem_cons, List.not_mem_nil, or_false] at hp; rcases hp with rfl | rfl <;> assumption)
          have hb1 := hRS.old _ _ (by intro p hp; simp only [List.mem_cons, List.not_mem_nil, or_false] at hp; rcases hp with rfl | rfl; exact n_b1_b2; exact n_b1_b3) hb1
          obtain ⟨c_b2, hb2, z_b2⟩ := hRS.shape (b2, .cells u1.cs 52) (by simp) _ _ hb2
          obtain ⟨c_b3, hb3, z_b3⟩ := hRS.shape (b3, .cells u2.cs 54) (by simp) _ _ hb3
          have p0 : vals 0 = .pointer (some ⟨b1, 0 + 1, none⟩) := hpre 0 (by decide)
          refine At.set (d := 39) (v := vals 0) rfl p0 ?_
          refine At.load rfl (Ld.ownCell ag23 hb1 (hp).c1) rfl ?_
          refine At.ops0 ?_
          exact fun a ha => ⟨_, (ha).drop2 (congrArg some p0), RS.refl _ _, rfl⟩
        · intro vals Lx w1 hRS hpre
          have hB := RS.below hRS hB (by intro p hp; simp only [List.mem_cons, List.not_mem_nil, or_false] at hp; rcases hp with rfl | rfl <;> assumption)
          have hb1 := hRS.old _ _ (by intro p hp; simp only [List.mem_cons, List.not_mem_nil, or_false] at hp; rcases hp with rfl | rfl; exact n_b1_b2; exact n_b1_b3) hb1
          obtain ⟨c_b2, hb2, z_b2⟩ := hRS.shape (b2, .cells u1.cs 52) (by simp) _ _ hb2
          obtain ⟨c_b3, hb3, z_b3⟩ := hRS.shape (b3, .cells u2.cs 54) (by simp) _ _ hb3
          refine At.move rfl rfl ?_
          refine At.ops0 ?_
          exact fun a ha => ⟨_, ha, RS.refl _ _, rfl⟩
        · intro vals Lx w1 hRS hpre
          have hB := RS.below hRS hB (by intro p hp; simp only [List.mem_cons, List.not_mem_nil, or_false] at hp; rcases hp with rfl | rfl <;> assumption)
          have hb1 := hRS.old _ _ (by intro p hp; simp only [List.mem_cons, List.not_mem_nil, or_false] at hp; rcases hp with rfl | rfl; exact n_b1_b2; exact n_b1_b3) hb1
          obtain ⟨c_b2, hb2, z_b2⟩ := hRS.shape (b2, .cells u1.cs 52) (by simp) _ _ hb2
          obtain ⟨c_b3, hb3, z_b3⟩ := hRS.shape (b3, .cells u2.cs 54) (by simp) _ _ hb3
          have p1 : vals 1 = p.dv := hpre 1 (by decide)
          refine At.set (d := 40) (v := vals 1) rfl p1 ?_
          have p2 : vals 2 = .int .i64 (k : Int) := hpre 2 (by decide)
          refine At.set (d := 41) (v := vals 2) rfl p2 ?_
          refine At.indexAddr (i := k) rfl rfl ((hp).datsAt).okL (lt_of_some hu1) el23 sz52 rfl ?_
          refine At.ops0 ?_
          exact fun a ha => ⟨_, ((ha).drop2 (congrArg some p2)).drop2 (congrArg some p1), RS.refl _ _, rfl⟩
        · intro vals Lx w1 hRS hpre
          have hB := RS.below hRS hB (by intro p hp; simp only [List.mem_cons, List.not_mem_nil, or_false] at hp; rcases hp with rfl | rfl <;> assumption)
          have hb1 := hRS.old _ _ (by intro p hp; simp only [List.mem_cons, List.not_mem_nil, or_false] at hp; rcases hp with rfl | rfl; exact n_b1_b2; exact n_b1_b3) hb1
          obtain ⟨c_b2, hb2, z_b2⟩ := hRS.shape (b2, .cells u1.cs 52) (by simp) _ _ hb2
          obtain ⟨c_b3, hb3, z_b3⟩ := hRS.shape (b3, .cells u2.cs 54) (by simp) _ _ hb3
          have p3 : vals 3 = .pointer (some ⟨vBlock p.dv, vOff p.dv + k * 2, none⟩) := hpre 3 (by decide)
          refine At.set (d := 42) (v := vals 3) rfl p3 ?_
          refine At.load rfl (Ld.row ag52 (sz52.trans (congrArg some (((hp).dat hu1)).size.symm)) ((((hp).datsAt).row hu1).keep hB)) rfl ?_
          refine At.ops0 ?_
          exact fun a ha => ⟨_, (ha).drop2 (congrArg some p3), RS.refl _ _, rfl⟩
        · intro vals Lx w1 hRS hpre
          have hB := RS.below hRS hB (by intro p hp; simp only [List.mem_cons, List.not_mem_nil, or_false] at hp; rcases hp with rfl | rfl <;> assumption)
          have hb1 := hRS.old _ _ (by intro p hp; simp only [List.mem_cons, List.not_mem_nil, or_false] at hp; rcases hp with rfl | rfl; exact n_b1_b2; exact n_b1_b3) hb1
          obtain ⟨c_b2, hb2, z_b2⟩ := hRS.shape (b2, .cells u1.cs 52) (by simp) _ _ hb2
          obtain ⟨c_b3, hb3, z_b3⟩ := hRS.shape (b3, .cells u2.cs 54) (by simp) _ _ hb3
          refine At.fieldAddr rfl fo35_1 rfl ?_
          refine At.ops0 ?_
          exact fun a ha => ⟨_, ha, RS.refl _ _, rfl⟩
        · intro vals Lx w1 hRS hpre
          have hB := RS.below hRS hB (by intro p hp; simp only [List.mem_cons, List.not_mem_nil, or_false] at hp; rcases hp with rfl | rfl <;> assumption)
          have hb1 := hRS.old _ _ (by intro p hp; simp only [List.mem_cons, List.not_mem_nil, or_false] at hp; rcases hp with rfl | rfl; exact n_b1_b2; exact n_b1_b3) hb1
          obtain ⟨c_b2, hb2, z_b2⟩ := hRS.shape (b2, .cells u1.cs 52) (by simp) _ _ hb2
          obtain ⟨c_b3, hb3, z_b3⟩ := hRS.shape (b3, .cells u2.cs 54) (by simp) _ _ hb3
          have p5 : vals 5 = .pointer (some ⟨b1, 0 + 1, none⟩) := hpre 5 (by decide)
          refine At.set (d := 44) (v := vals 5) rfl p5 ?_
          refine At.load rfl (Ld.ownCell ag23 hb1 (hp).c1) rfl ?_
          refine At.ops0 ?_
          exact fun a ha => ⟨_, (ha).drop2 (congrArg some p5), RS.refl _ _, rfl⟩
        · intro vals Lx w1 hRS hpre
          have hB := RS.below hRS hB (by intro p hp; simp only [List.mem_cons, List.not_mem_nil, or_false] at hp; rcases hp with rfl | rfl <;> assumption)
          have hb1 := hRS.old _ _ (by intro p hp; simp only [List.mem_cons, List.not_mem_nil, or_false] at hp; rcases hp with rfl | rfl; exact n_b1_b2; exact n_b1_b3) hb1
          obtain ⟨c_b2, hb2, z_b2⟩ := hRS.shape (b2, .cells u1.cs 52) (by simp) _ _ hb2
          obtain ⟨c_b3, hb3, z_b3⟩ := hRS.shape (b3, .cells u2.cs 54) (by simp) _ _ hb3
          refine At.move rfl rfl ?_
          refine At.ops0 ?_
          exact fun a ha => ⟨_, ha, RS.refl _ _, rfl⟩
        · intro vals Lx w1 hRS hpre
          have hB := RS.below hRS hB (by intro p hp; simp only [List.mem_cons, List.not_mem_nil, or_false] at hp; rcases hp with rfl | rfl <;> assumption)
          have hb1 := hRS.old _ _ (by intro p hp; simp only [List.mem_cons, List.not_mem_nil, or_false] at hp; rcases hp with rfl | rfl; exact n_b1_b2; exact n_b1_b3) hb1
          obtain ⟨c_b2, hb2, z_b2⟩ := hRS.shape (b2, .cells u1.cs 52) (by simp) _ _ hb2
          obtain ⟨c_b3, hb3, z_b3⟩ := hRS.shape (b3, .cells u2.cs 54) (by simp) _ _ hb3
          have p6 : vals 6 = p.dv := hpre 6 (by decide)
          refine At.set (d := 45) (v := vals 6) rfl p6 ?_
          have p7 : vals 7 = .int .i64 (k : Int) := hpre 7 (by decide)
          refine At.set (d := 46) (v := vals 7) rfl p7 ?_
          refine At.indexAddr (i := k) rfl rfl ((hp).datsAt).okL (lt_of_some hu1) el23 sz52 rfl ?_
          refine At.ops0 ?_
          exact fun a ha => ⟨_, ((ha).drop2 (congrArg some p7)).drop2 (congrArg some p6), RS.refl _ _, rfl⟩
        · intro vals Lx w1 hRS hpre
          have hB := RS.below hRS hB (by intro p hp; simp only [List.mem_cons, List.not_mem_nil, or_false] at hp; rcases hp with rfl | rfl <;> assumption)
          have hb1 := hRS.old _ _ (by intro p hp; simp only [List.mem_cons, List.not_mem_nil, or_false] at hp; rcases hp with rfl | rfl; exact n_b1_b2; exact n_b1_b3) hb1
          obtain ⟨c_b2, hb2, z_b2⟩ := hRS.shape (b2, .cells u1.cs 52) (by simp) _ _ hb2
          obtain ⟨c_b3, hb3, z_b3⟩ := hRS.shape (b3, .cells u2.cs 54) (by simp) _ _ hb3
          have p8 : vals 8 = .pointer (some ⟨vBlock p.dv, vOff p.dv + k * 2, none⟩) := hpre 8 (by decide)
          refine At.set (d := 47) (v := vals 8) rfl p8 ?_
          refine At.fieldAddr rfl fo52_1 rfl ?_
          refine At.ops0 ?_
          exact fun a ha => ⟨_, (ha).drop2 (congrArg some p8), RS.refl _ _, rfl⟩
        · intro vals Lx w1 hRS hpre
          have hB := RS.below hRS hB (by intro p hp; simp only [List.mem_cons, List.not_mem_nil, or_false] at hp; rcases hp with rfl | rfl <;> assumption)
          have hb1 := hRS.old _ _ (by intro p hp; simp only [List.mem_cons, List.not_mem_nil, or_false] at hp; rcases hp with rfl | rfl; exact n_b1_b2; exact n_b1_b3) hb1
          obtain ⟨c_b2, hb2, z_b2⟩ := hRS.shape (b2, .cells u1.cs 52) (by simp) _ _ hb2
          obtain ⟨c_b3, hb3, z_b3⟩ := hRS.shape (b3, .cells u2.cs 54) (by simp) _ _ hb3
          have p9 : vals 9 = .pointer (some ⟨vBlock p.dv, vOff p.dv + k * 2 + 1, none⟩) := hpre 9 (by decide)
          refine At.set (d := 48) (v := vals 9) rfl p9 ?_
          refine At.load rfl (Ld.cell ag50 (cell_keep ((((hp).datsAt).row hu1).get (((hp).dat hu1)).c1) hB)) rfl ?_
          refine At.ops0 ?_
          exact fun a ha => ⟨_, (ha).drop2 (congrArg some p9), RS.refl _ _, rfl⟩
        · intro vals Lx w1 hRS hpre
          have hB := RS.below hRS hB (by intro p hp; simp only [List.mem_cons, List.not_mem_nil, or_false] at hp; rcases hp with rfl | rfl <;> assumption)
          have hb1 := hRS.old _ _ (by intro p hp; simp only [List.mem_cons, List.not_mem_nil, or_false] at hp; rcases hp with rfl | rfl; exact n_b1_b2; exact n_b1_b3) hb1
          obtain ⟨c_b2, hb2, z_b2⟩ := hRS.shape (b2, .cells u1.cs 52) (by simp) _ _ hb2
          obtain ⟨c_b3, hb3, z_b3⟩ := hRS.shape (b3, .cells u2.cs 54) (by simp) _ _ hb3
          refine At.move rfl rfl ?_
          refine At.ops0 ?_
          exact fun a ha => ⟨_, ha, RS.refl _ _, rfl⟩
        · intro vals Lx w1 hRS hpre
          have hB := RS.below hRS hB (by intro p hp; simp only [List.mem_cons, List.not_mem_nil, or_false] at hp; rcases hp with rfl | rfl <;> assumption)
          have hb1 := hRS.old _ _ (by intro p hp; simp only [List.mem_cons, List.not_mem_nil, or_false] at hp; rcases hp with rfl | rfl; exact n_b1_b2; exact n_b1_b3) hb1
          obtain ⟨c_b2, hb2, z_b2⟩ := hRS.shape (b2, .cells u1.cs 52) (by simp) _ _ hb2
          obtain ⟨c_b3, hb3, z_b3⟩ := hRS.shape (b3, .cells u2.cs 54) (by simp) _ _ hb3
          have p10 : vals 10 = u1.cv := hpre 10 (by decide)
          refine At.set (d := 49) (v := vals 10) rfl p10 ?_
          have p11 : vals 11 = .int .i64 (j : Int) := hpre 11 (by decide)
          refine At.set (d := 50) (v := vals 11) rfl p11 ?_
          refine At.indexAddr (i := j) rfl rfl ((((hp).dat hu1)).consAt).okL (lt_of_some hu2) el50 sz54 rfl ?_
          refine At.ops0 ?_
          exact fun a ha => ⟨_, ((ha).drop2 (congrArg some p11)).drop2 (congrArg some p10), RS.refl _ _, rfl⟩
        · intro vals Lx w1 hRS hpre
          have hB := RS.below hRS hB (by intro p hp; simp only [List.mem_cons, List.not_mem_nil, or_false] at hp; rcases hp with rfl | rfl <;> assumption)
          have hb1 := hRS.old _ _ (by intro p hp; simp only [List.mem_cons, List.not_mem_nil, or_false] at hp; rcases hp with rfl | rfl; exact n_b1_b2; exact n_b1_b3) hb1
          obtain ⟨c_b2, hb2, z_b2⟩ := hRS.shape (b2, .cells u1.cs 52) (by simp) _ _ hb2
          obtain ⟨c_b3, hb3, z_b3⟩ := hRS.shape (b3, .cells u2.cs 54) (by simp) _ _ hb3
          have p12 : vals 12 = .pointer (some ⟨vBlock u1.cv, vOff u1.cv + j * 2, none⟩) := hpre 12 (by decide)
          refine At.set (d := 51) (v := vals 12) rfl p12 ?_
          refine At.load rfl (Ld.row ag54 (sz54.trans (congrArg some (((((hp).dat hu1)).con hu2)).size.symm)) ((((((hp).dat hu1)).consAt).row hu2).keep hB)) rfl ?_
          refine At.ops0 ?_
          exact fun a ha => ⟨_, (ha).drop2 (congrArg some p12), RS.refl _ _, rfl⟩
        · intro vals Lx w1 hRS hpre
          have hB := RS.below hRS hB (by intro p hp; simp only [List.mem_cons, List.not_mem_nil, or_false] at hp; rcases hp with rfl | rfl <;> assumption)
          have hb1 := hRS.old _ _ (by intro p hp; simp only [List.mem_cons, List.not_mem_nil, or_false] at hp; rcases hp with rfl | rfl; exact n_b1_b2; exact n_b1_b3) hb1
          obtain ⟨c_b2, hb2, z_b2⟩ := hRS.shape (b2, .cells u1.cs 52) (by simp) _ _ hb2
          obtain ⟨c_b3, hb3, z_b3⟩ := hRS.shape (b3, .cells u2.cs 54) (by simp) _ _ hb3
          have p4 : vals 4 = .agg u1.cs := hpre 4 (by decide)
          refine At.set (d := 43) (v := vals 4) rfl p4 ?_
          have p0 : vals 0 = .pointer (some ⟨b1, 0 + 1, none⟩) := hpre 0 (by decide)
          refine At.set (d := 39) (v := vals 0) rfl p0 ?_
          have p1 : vals 1 = p.dv := hpre 1 (by decide)
          refine At.set (d := 40) (v := vals 1) rfl p1 ?_
          have p2 : vals 2 = .int .i64 (k : Int) := hpre 2 (by decide)
          refine At.set (d := 41) (v := vals 2) rfl p2 ?_
          have p3 : vals 3 = .pointer (some ⟨vBlock p.dv, vOff p.dv + k * 2, none⟩) := hpre 3 (by decide)
          refine At.set (d := 42) (v := vals 3) rfl p3 ?_
          have hb2_old := hb2
          have z_b2_eq := ((z_b2.trans ((((hp).dat hu1)).size.symm))).symm
          refine At.storeAll rfl rfl hb2 (sz52.trans (congrArg some (((hp).dat hu1)).size.symm)) (z_b2.trans ((((hp).dat hu1)).size.symm)) (((hp).dat hu1)).one (fun w6 S1 => ?_)
          replace hb1 := S1.other hb1 n_b1_b2
          replace hb3 := S1.other hb3 n_b2_b3.symm
          replace hb2 : w6.heap[b2]? = some (.cells u1.cs 52) := S1.new
          replace hB := S1.below' hB gb2
          refine At.ops0 ?_
          exact fun a ha => ⟨undef, (((((ha).drop1 (congrArg some p3)).drop1 (congrArg some p2)).drop1 (congrArg some p1)).drop1 (congrArg some p0)).drop1 (congrArg some p4), RS.of_set S1 (by simp) hb2_old (z_b2_eq) (by intro p hp e; simp only [List.mem_cons, List.not_mem_nil, or_false] at hp; rcases hp with rfl | rfl <;> first | rfl | (exfalso; revert e; assumption) | (exfalso; exact absurd e.symm (by assumption))), hb2⟩
        · intro vals Lx w1 hRS hpre
          have hB := RS.below hRS hB (by intro p hp; simp only [List.mem_cons, List.not_mem_nil, or_false] at hp; rcases hp with rfl | rfl <;> assumption)
          have hb1 := hRS.old _ _ (by intro p hp; simp only [List.mem_cons, List.not_mem_nil, or_false] at hp; rcases hp with rfl | rfl; exact n_b1_b2; exact n_b1_b3) hb1
          obtain ⟨c_b2, hb2, z_b2⟩ := hRS.shape (b2, .cells u1.cs 52) (by simp) _ _ hb2
          obtain ⟨c_b3, hb3, z_b3⟩ := hRS.shape (b3, .cells u2.cs 54) (by simp) _ _ hb3
          have p13 : vals 13 = .agg u2.cs := hpre 13 (by decide)
          refine At.set (d := 52) (v := vals 13) rfl p13 ?_
          have p0 : vals 0 = .pointer (some ⟨b1, 0 + 1, none⟩) := hpre 0 (by decide)
          refine At.set (d := 39) (v := vals 0) rfl p0 ?_
          have p1 : vals 1 = p.dv := hpre 1 (by decide)
          refine At.set (d := 40) (v := vals 1) rfl p1 ?_
          have p2 : vals 2 = .int .i64 (k : Int) := hpre 2 (by decide)
          refine At.set (d := 41) (v := vals 2) rfl p2 ?_
          have p3 : vals 3 = .pointer (some ⟨vBlock p.dv, vOff p.dv + k * 2, none⟩) := hpre 3 (by decide)
          refine At.set (d := 42) (v := vals 3) rfl p3 ?_
          have p4 : vals 4 = .agg u1.cs := hpre 4 (by decide)
          refine At.set (d := 43) (v := vals 4) rfl p4 ?_
          have p5 : vals 5 = .pointer (some ⟨b1, 0 + 1, none⟩) := hpre 5 (by decide)
          refine At.set (d := 44) (v := vals 5) rfl p5 ?_
          have p6 : vals 6 = p.dv := hpre 6 (by decide)
          refine At.set (d := 45) (v := vals 6) rfl p6 ?_
          have p7 : vals 7 = .int .i64 (k : Int) := hpre 7 (by decide)
          refine At.set (d := 46) (v := vals 7) rfl p7 ?_
          have p8 : vals 8 = .pointer (some ⟨vBlock p.dv, vOff p.dv + k * 2, none⟩) := hpre 8 (by decide)
          refine At.set (d := 47) (v := vals 8) rfl p8 ?_
          have p9 : vals 9 = .pointer (some ⟨vBlock p.dv, vOff p.dv + k * 2 + 1, none⟩) := hpre 9 (by decide)
          refine At.set (d := 48) (v := vals 9) rfl p9 ?_
          have p10 : vals 10 = u1.cv := hpre 10 (by decide)
          refine At.set (d := 49) (v := vals 10) rfl p10 ?_
          have p11 : vals 11 = .int .i64 (j : Int) := hpre 11 (by decide)
          refine At.set (d := 50) (v := vals 11) rfl p11 ?_
          have p12 : vals 12 = .pointer (some ⟨vBlock u1.cv, vOff u1.cv + j * 2, none⟩) := hpre 12 (by decide)
          refine At.set (d := 51) (v := vals 12) rfl p12 ?_
          have hb3_old := hb3
          have z_b3_eq := ((z_b3.trans ((((((hp).dat hu1)).con hu2)).size.symm))).symm
          refine At.storeAll rfl rfl hb3 (sz54.trans (congrArg some (((((hp).dat hu1)).con hu2)).size.symm)) (z_b3.trans ((((((hp).dat hu1)).con hu2)).size.symm)) (((((hp).dat hu1)).con hu2)).one (fun w7 S2 => ?_)
          replace hb1 := S2.other hb1 n_b1_b3
          replace hb2 := S2.other hb2 n_b2_b3
          replace hb3 : w7.heap[b3]? = some (.cells u2.cs 54) := S2.new
          replace hB := S2.below' hB gb3
          refine At.ops0 ?_
          exact fun a ha => ⟨undef, ((((((((((((((ha).drop1 (congrArg some p12)).drop1 (congrArg some p11)).drop1 (congrArg some p10)).drop1 (congrArg some p9)).drop1 (congrArg some p8)).drop1 (congrArg some p7)).drop1 (congrArg some p6)).drop1 (congrArg some p5)).drop1 (congrArg some p4)).drop1 (congrArg some p3)).drop1 (congrArg some p2)).drop1 (congrArg some p1)).drop1 (congrArg some p0)).drop1 (congrArg some p13), RS.of_set S2 (by simp) hb3_old (z_b3_eq) (by intro p hp e; simp only [List.mem_cons, List.not_mem_nil, or_false] at hp; rcases hp with rfl | rfl <;> first | rfl | (exfalso; revert e; assumption) | (exfalso; exact absurd e.symm (by assumption))), hb3⟩
        · intro vals Lx w1 hRS hpre
          have hB := RS.below hRS hB (by intro p hp; simp only [List.mem_cons, List.not_mem_nil, or_false] at hp; rcases hp with rfl | rfl <;> assumption)
          have hb1 := hRS.old _ _ (by intro p hp; simp only [List.mem_cons, List.not_mem_nil, or_false] at hp; rcases hp with rfl | rfl; exact n_b1_b2; exact n_b1_b3) hb1
          obtain ⟨c_b2, hb2, z_b2⟩ := hRS.shape (b2, .cells u1.cs 52) (by simp) _ _ hb2
          obtain ⟨c_b3, hb3, z_b3⟩ := hRS.shape (b3, .cells u2.cs 54) (by simp) _ _ hb3
          have p0 : vals 0 = .pointer (some ⟨b1, 0 + 1, none⟩) := hpre 0 (by decide)
          refine At.set (d := 39) (v := vals 0) rfl p0 ?_
          have p1 : vals 1 = p.dv := hpre 1 (by decide)
          refine At.set (d := 40) (v := vals 1) rfl p1 ?_
          have p2 : vals 2 = .int .i64 (k : Int) := hpre 2 (by decide)
          refine At.set (d := 41) (v := vals 2) rfl p2 ?_
          have p3 : vals 3 = .pointer (some ⟨vBlock p.dv, vOff p.dv + k * 2, none⟩) := hpre 3 (by decide)
          refine At.set (d := 42) (v := vals 3) rfl p3 ?_
          have p4 : vals 4 = .agg u1.cs := hpre 4 (by decide)
          refine At.set (d := 43) (v := vals 4) rfl p4 ?_
          have p5 : vals 5 = .pointer (some ⟨b1, 0 + 1, none⟩) := hpre 5 (by decide)
          refine At.set (d := 44) (v := vals 5) rfl p5 ?_
          have p6 : vals 6 = p.dv := hpre 6 (by decide)
          refine At.set (d := 45) (v := vals 6) rfl p6 ?_
          have p7 : vals 7 = .int .i64 (k : Int) := hpre 7 (by decide)
          refine At.set (d := 46) (v := vals 7) rfl p7 ?_
          have p8 : vals 8 = .pointer (some ⟨vBlock p.dv, vOff p.dv + k * 2, none⟩) := hpre 8 (by decide)
          refine At.set (d := 47) (v := vals 8) rfl p8 ?_
          have p9 : vals 9 = .pointer (some ⟨vBlock p.dv, vOff p.dv + k * 2 + 1, none⟩) := hpre 9 (by decide)
          refine At.set (d := 48) (v := vals 9) rfl p9 ?_
          have p10 : vals 10 = u1.cv := hpre 10 (by decide)
          refine At.set (d := 49) (v := vals 10) rfl p10 ?_
          have p11 : vals 11 = .int .i64 (j : Int) := hpre 11 (by decide)
          refine At.set (d := 50) (v := vals 11) rfl p11 ?_
          have p12 : vals 12 = .pointer (some ⟨vBlock u1.cv, vOff u1.cv + j * 2, none⟩) := hpre 12 (by decide)
          refine At.set (d := 51) (v := vals 12) rfl p12 ?_
          have p13 : vals 13 = .agg u2.cs := hpre 13 (by decide)
          refine At.set (d := 52) (v := vals 13) rfl p13 ?_
          refine At.assign rfl rfl ?_
          refine At.ops0 ?_
          exact fun a ha => ⟨_, ((((((((((((((ha).drop2 (congrArg some p13)).drop2 (congrArg some p12)).drop2 (congrArg some p11)).drop2 (congrArg some p10)).drop2 (congrArg some p9)).drop2 (congrArg some p8)).drop2 (congrArg some p7)).drop2 (congrArg some p6)).drop2 (congrArg some p5)).drop2 (congrArg some p4)).drop2 (congrArg some p3)).drop2 (congrArg some p2)).drop2 (congrArg some p1)).drop2 (congrArg some p0), RS.refl _ _, rfl⟩
        · skip
          have hB := RS.below hRS hB (by intro p hp; simp only [List.mem_cons, List.not_mem_nil, or_false] at hp; rcases hp with rfl | rfl <;> assumption)
          have hb1 := hRS.old _ _ (by intro p hp; simp only [List.mem_cons, List.not_mem_nil, or_false] at hp; rcases hp with rfl | rfl; exact n_b1_b2; exact n_b1_b3) hb1
          have hb2 : w'.heap[b2]? = some (.cells u1.cs 52) := hf 14 (by decide)
          have hb3 : w'.heap[b3]? = some (.cells u2.cs 54) := hf 15 (by decide)
          have p16 : vals 16 = .bool true := hf 16 (by decide)
          refine At.sub (L' := [(2, .pointer (some ⟨b1, 0, none⟩)), (4, .pointer (some ⟨b2, 0, none⟩)), (5, .pointer (some ⟨b3, 0, none⟩)), (7, .int .i64 (k : Int)), (8, .int .i64 (j : Int)), (6, .bool true)]) (Sub.cons rfl (Sub.cons rfl (Sub.cons rfl (Sub.cons rfl (Sub.cons rfl (Sub.cons (congrArg some p16) Sub.nil)))))) ?_
          refine At.thenN ?_
          refine At.retc ?_
          refine At.inR ?_
          refine At.thenR ?_
          refine At.thenR ?_
          refine At.inR ?_
          refine At.inR ?_
          refine At.thenR ?_
          refine At.thenR ?_
          refine At.inR ?_
          refine At.thenR ?_
          refine At.doneR (ResV.cell rfl (Ld.own ag52 (sz52.trans (congrArg some (((hp).dat hu1)).size.symm)) hb2) (ResV.cell rfl (Ld.own ag54 (sz54.trans (congrArg some (((((hp).dat hu1)).con hu2)).size.symm)) hb3) (ResV.tmp rfl ResV.nil))) ?_
          have hq : findCon p.dats s = some (u1, u2) := findSome_yes hu1 (by simp [conIn, find_yes (p := cnIs s) hu2 (by simpa [cnIs] using hc3') hn2]) hn
          exact ⟨by rw [hq]; rfl, hB⟩
      · skip
        have hc3' := of_decide_eq_false hc3
        refine At.skip ?_
        refine At.inN ?_
        refine At.thenN ?_
        refine At.region ?_
        refine At.move rfl rfl ?_
        refine At.addI rfl rfl rfl (by omega) ?_
        refine At.assign rfl rfl ?_
        refine At.ops0 ?_
        refine At.thenN ?_
        exact fun a ha => ⟨(j + 1), ha.sub (Sub.cons rfl (Sub.cons rfl (Sub.cons rfl (Sub.cons rfl (Sub.cons rfl (Sub.cons rfl Sub.nil)))))), ⟨hB, hb1, hb2, hb3, (by omega), (next_no hn2 hu2 (by simpa [cnIs] using hc3'))⟩, by first | omega | (dsimp only; omega)⟩
    · skip
      have hc2' := of_decide_eq_false hc2
      refine At.exit ?_
      refine At.thenE ?_
      refine At.thenE ?_
      refine At.inE ?_
      refine At.inN ?_
      refine At.thenN ?_
      refine At.region ?_
      refine At.move rfl rfl ?_
      refine At.addI rfl rfl rfl (by omega) ?_
      refine At.assign rfl rfl ?_
      refine At.ops0 ?_
      refine At.thenN ?_
      exact fun a ha => ⟨(k + 1), ha.sub (Sub.cons rfl (Sub.cons rfl (Sub.cons rfl (Sub.cons rfl (Sub.cons rfl Sub.nil))))), ⟨hB, hb1, hb2, hb3, (by omega), (next_none hn hu1 (by simp [conIn, find_no (p := cnIs s) (l := u1.cons) (by omega) hn2]))⟩, by first | omega | (dsimp only; omega)⟩
  · skip
    have hc1' := of_decide_eq_false hc1
    refine At.exit ?_
    refine At.thenE ?_
    refine At.thenE ?_
    refine At.inE ?_
    refine At.thenN ?_
    refine At.seq ?_
    refine At.region ?_
    refine At.build (C := #[.string (⟨#[]⟩ : ByteArray), (.slice none 0 0)]) sd52 ze52 rfl (Bld.nil _) rfl ?_
    refine At.build (C := #[.string (⟨#[]⟩ : ByteArray), (.slice none 0 0)]) sd54 ze54 rfl (Bld.nil _) rfl ?_
    refine At.storeAll rfl rfl hb2 sz52 rfl (by simp [Value.oneCell', ((SlOk.nil)).one]) (fun w9 S3 => ?_)
    replace hb1 := S3.other hb1 n_b1_b2
    replace hb3 := S3.other hb3 n_b2_b3.symm
    replace hb2 : w9.heap[b2]? = some (.cells #[.string (⟨#[]⟩ : ByteArray), (.slice none 0 0)] 52) := S3.new
    replace hB := S3.below' hB gb2
    refine At.storeAll rfl rfl hb3 sz54 rfl (by simp [Value.oneCell', ((SlOk.nil)).one]) (fun w10 S4 => ?_)
    replace hb1 := S4.other hb1 n_b1_b3
    replace hb2 := S4.other hb2 n_b2_b3
    replace hb3 : w10.heap[b3]? = some (.cells #[.string (⟨#[]⟩ : ByteArray), (.slice none 0 0)] 54) := S4.new
    replace hB := S4.below' hB gb3
    refine At.assign rfl rfl ?_
    refine At.ops0 ?_
    refine At.thenN ?_
    refine At.retc ?_
    refine At.doneR (ResV.cell rfl (Ld.own (C := #[.string (⟨#[]⟩ : ByteArray), (.slice none 0 0)]) ag52 sz52 hb2) (ResV.cell rfl (Ld.own (C := #[.string (⟨#[]⟩ : ByteArray), (.slice none 0 0)]) ag54 sz54 hb3) (ResV.tmp rfl ResV.nil))) ?_
    have hq : findCon p.dats s = none := findSome_no (by omega) hn
    exact ⟨by rw [hq]; rfl, hB⟩
theorem refHandled_any (p : Pr) (s : ByteArray) (w : World) (hp : PrOk w p) (hl : p.effs.length ≤ 9223372036854775807) :
    Calls Try.prog 17 ([.agg p.cs, .string s] : List Value).toArray w fun e w' => e = .returned (hdV (findHd p.effs s)) ∧ Below w.heap.size w w' := by
  have hB := Below.refl w.heap.size w
  refine At.enter (N := 28) Try.func17 rfl rfl (by simp) [(0, .agg p.cs), (1, .string s)] (by simp) ?_
  refine At.seq ?_
  refine At.region ?_
  refine At.box rfl rfl (fun b1 w1 F1 => ?_)
  have gb1 := F1.ge hB
  have hb1 : w1.heap[b1]? = some (.cells p.cs 35) := F1.new
  replace hB := F1.below' hB
  refine At.alloc ze43 rfl (fun b2 w2 F2 => ?_)
  have n_b1_b2 : b1 ≠ b2 := Nat.ne_of_lt (F2.lt hb1)
  have gb2 := F2.ge hB
  replace hb1 := F2.old hb1
  have hb2 : w2.heap[b2]? = some (.cells #[.string (⟨#[]⟩ : ByteArray), (.slice none 0 0)] 43) := F2.new
  replace hB := F2.below' hB
  refine At.assign rfl rfl ?_
  refine At.ops0 ?_
  refine At.thenN ?_
  refine At.seq ?_
  refine At.seq ?_
  refine At.region ?_
  refine At.assign rfl rfl ?_
  refine At.ops0 ?_
  refine At.thenN ?_
  refine At.block ?_
  refine At.loop (Nat) (fun k => [(1, .string s), (2, .pointer (some ⟨b1, 0, none⟩)), (4, .pointer (some ⟨b2, 0, none⟩)), (6, .int .i64 (k : Int))]) (fun k w3 => Below w.heap.size w w3 ∧ w3.heap[b1]? = some (.cells p.cs 35) ∧ w3.heap[b2]? = some (.cells #[.string (⟨#[]⟩ : ByteArray), (.slice none 0 0)] 43) ∧ (k ≤ p.effs.length) ∧ (∀ i x, i < k → p.effs[i]? = some x → effIs s x = false)) (fun k => p.effs.length - k) (0 : Nat) (Sub.cons rfl (Sub.cons rfl (Sub.cons rfl (Sub.cons rfl Sub.nil)))) ⟨hB, hb1, hb2, (Nat.zero_le _), (fun j x hj => absurd hj (Nat.not_lt_zero j))⟩ (fun k w3 hI => ?_)
  clear hB hb1 hb2
  obtain ⟨hB, hb1, hb2, hk, hn⟩ := hI
  show At _ _ [(1, .string s), (2, .pointer (some ⟨b1, 0, none⟩)), (4, .pointer (some ⟨b2, 0, none⟩)), (6, .int .i64 (k : Int))] _ _
  refine At.seq ?_
  refine At.seq ?_
  refine At.region ?_
  refine At.move rfl rfl ?_
  refine At.fieldAddr rfl fo35_0 rfl ?_
  refine At.load rfl (Ld.ownCell ag22 hb1 (hp).c0) rfl ?_
  refine At.lenSl rfl ((hp).effsAt).okL el22 rfl ?_
  refine At.lss rfl rfl rfl ?_
  refine At.ops0 ?_
  refine At.thenN ?_
  refine At.cond (b := decide ((k : Int) < (p.effs.length : Int))) rfl (fun hc1 => ?_) (fun hc1 => ?_)
  · skip
    have hc1' := of_decide_eq_true hc1
    refine At.skip ?_
    refine At.thenN ?_
    refine At.seq ?_
    refine At.block ?_
    refine At.seq ?_
    refine At.region ?_
    refine At.fieldAddr rfl fo35_0 rfl ?_
    refine At.load rfl (Ld.ownCell ag22 hb1 (hp).c0) rfl ?_
    refine At.move rfl rfl ?_
    obtain ⟨u1, hu1⟩ := some_of_lt (l := p.effs) (i := k) (by omega)
    refine At.indexAddr (i := k) rfl rfl ((hp).effsAt).okL (lt_of_some hu1) el22 sz43 rfl ?_
    refine At.fieldAddr rfl fo43_0 rfl ?_
    refine At.load rfl (Ld.cell ag9 (cell_keep ((((hp).effsAt).row hu1).get (((hp).eff hu1)).c0) hB)) rfl ?_
    refine At.move rfl rfl ?_
    refine At.eqS rfl rfl rfl ?_
    refine At.ops0 ?_
    refine At.thenN ?_
    refine At.cond (b := decide (u1.nm = s)) rfl (fun hc2 => ?_) (fun hc2 => ?_)
    · skip
      have hc2' := of_decide_eq_true hc2
      refine At.seq ?_
      refine At.region ?_
      refine At.fieldAddr rfl fo35_0 rfl ?_
      refine At.load rfl (Ld.ownCell ag22 hb1 (hp).c0) rfl ?_
      refine At.move rfl rfl ?_
      refine At.indexAddr (i := k) rfl rfl ((hp).effsAt).okL (lt_of_some hu1) el22 sz43 rfl ?_
      refine At.load rfl (Ld.row ag43 (sz43.trans (congrArg some (((hp).eff hu1)).size.symm)) ((((hp).effsAt).row hu1).keep hB)) rfl ?_
      refine At.storeAll rfl rfl hb2 (sz43.trans (congrArg some (((hp).eff hu1)).size.symm)) (((hp).eff hu1)).size.symm (((hp).eff hu1)).one (fun w4 S1 => ?_)
      replace hb1 := S1.other hb1 n_b1_b2
      replace hb2 : w4.heap[b2]? = some (.cells u1.cs 43) := S1.new
      replace hB := S1.below' hB gb2
      refine At.assign rfl rfl ?_
      refine At.ops0 ?_
      refine At.thenN ?_
      refine At.retc ?_
      refine At.inR ?_
      refine At.thenR ?_
      refine At.thenR ?_
      refine At.inR ?_
      refine At.thenR ?_
      refine At.doneR (ResV.cell rfl (Ld.own ag43 (sz43.trans (congrArg some (((hp).eff hu1)).size.symm)) hb2) (ResV.tmp rfl ResV.nil)) ?_
      have hq : findHd p.effs s = some u1 := find_yes (p := effIs s) hu1 (by simpa [effIs] using hc2') hn
      exact ⟨by rw [hq]; rfl, hB⟩
    · skip
      have hc2' := of_decide_eq_false hc2
      refine At.skip ?_
      refine At.inN ?_
      refine At.thenN ?_
      refine At.region ?_
      refine At.move rfl rfl ?_
      refine At.addI rfl rfl rfl (by omega) ?_
      refine At.assign rfl rfl ?_
      refine At.ops0 ?_
      refine At.thenN ?_
      exact fun a ha => ⟨(k + 1), ha.sub (Sub.cons rfl (Sub.cons rfl (Sub.cons rfl (Sub.cons rfl Sub.nil)))), ⟨hB, hb1, hb2, (by omega), (next_no hn hu1 (by simpa [effIs] using hc2'))⟩, by first | omega | (dsimp only; omega)⟩
  · skip
    have hc1' := of_decide_eq_false hc1
    refine At.exit ?_
    refine At.thenE ?_
    refine At.thenE ?_
    refine At.inE ?_
    refine At.thenN ?_
    refine At.seq ?_
    refine At.region ?_
    refine At.build (C := #[.string (⟨#[]⟩ : ByteArray), (.slice none 0 0)]) sd43 ze43 rfl (Bld.nil _) rfl ?_
    refine At.storeAll rfl rfl hb2 sz43 rfl (by simp [Value.oneCell', ((SlOk.nil)).one]) (fun w5 S2 => ?_)
    replace hb1 := S2.other hb1 n_b1_b2
    replace hb2 : w5.heap[b2]? = some (.cells #[.string (⟨#[]⟩ : ByteArray), (.slice none 0 0)] 43) := S2.new
    replace hB := S2.below' hB gb2
    refine At.assign rfl rfl ?_
    refine At.ops0 ?_
    refine At.thenN ?_
    refine At.retc ?_
    refine At.doneR (ResV.cell rfl (Ld.own (C := #[.string (⟨#[]⟩ : ByteArray), (.slice none 0 0)]) ag43 sz43 hb2) (ResV.tmp rfl ResV.nil)) ?_
    have hq : findHd p.effs s = none := find_no (p := effIs s) (by omega) hn
    exact ⟨by rw [hq]; rfl, hB⟩
theorem prims_any (s : ByteArray) (w : World)  :
    Calls Try.prog 20 ([.string s] : List Value).toArray w fun e w' => e = .returned (primV s) ∧ w = w' := by
  have hB := Below.refl w.heap.size w
  refine At.enter (N := 19) Try.func20 rfl rfl (by simp) [(0, .string s)] (by simp) ?_
  refine At.seq ?_
  refine At.region ?_
  refine At.assign rfl rfl ?_
  refine At.assign rfl rfl ?_
  refine At.ops0 ?_
  refine At.thenN ?_
  refine At.seq ?_
  refine At.seq ?_
  refine At.region ?_
  refine At.move rfl rfl ?_
  refine At.ops0 ?_
  refine At.thenN ?_
  refine At.block ?_
  refine At.seq ?_
  refine At.seq ?_
  refine At.region ?_
  refine At.eqS rfl rfl rfl ?_
  refine At.assign rfl rfl ?_
  refine At.ops0 ?_
  refine At.thenN ?_
  refine At.cond (b := decide (s = (⟨#[43]⟩ : ByteArray))) rfl (fun hc1 => ?_) (fun hc1 => ?_)
  · skip
    have hc1' := of_decide_eq_true hc1
    refine At.set (d := 5) (u := .bool true) rfl (congrArg Value.bool hc1) ?_
    refine At.skip ?_
    refine At.thenN ?_
    refine At.condT rfl ?_
    refine At.seq ?_
    refine At.region ?_
    refine At.assign rfl rfl ?_
    refine At.assign rfl rfl ?_
    refine At.ops0 ?_
    refine At.thenN ?_
    refine At.retc ?_
    refine At.inR ?_
    refine At.thenR ?_
    refine At.doneR (ResV.tmp rfl (ResV.tmp rfl ResV.nil)) ?_
    exact ⟨by simp only [primV, primN, hc1, Bool.true_or, Bool.or_true, Bool.false_or, Bool.or_false, if_true, if_false, Bool.false_eq_true] <;> rfl, rfl⟩
  · skip
    have hc1' := of_decide_eq_false hc1
    refine At.seq ?_
    refine At.region ?_
    refine At.eqS rfl rfl rfl ?_
    refine At.assign rfl rfl ?_
    refine At.ops0 ?_
    refine At.thenN ?_
    refine At.cond (b := decide (s = (⟨#[45]⟩ : ByteArray))) rfl (fun hc2 => ?_) (fun hc2 => ?_)
    · skip
      have hc2' := of_decide_eq_true hc2
      refine At.set (d := 5) (u := .bool true) rfl (congrArg Value.bool hc2) ?_
      refine At.skip ?_
      refine At.thenN ?_
      refine At.condT rfl ?_
      refine At.seq ?_
      refine At.region ?_
      refine At.assign rfl rfl ?_
      refine At.assign rfl rfl ?_
      refine At.ops0 ?_
      refine At.thenN ?_
      refine At.retc ?_
      refine At.inR ?_
      refine At.thenR ?_
      refine At.doneR (ResV.tmp rfl (ResV.tmp rfl ResV.nil)) ?_
      exact ⟨by simp only [primV, primN, hc1, hc2, Bool.true_or, Bool.or_true, Bool.false_or, Bool.or_false, if_true, if_false, Bool.false_eq_true] <;> rfl, rfl⟩
    · skip
      have hc2' := of_decide_eq_false hc2
      refine At.seq ?_
      refine At.region ?_
      refine At.eqS rfl rfl rfl ?_
      refine At.assign rfl rfl ?_
      refine At.ops0 ?_
      refine At.thenN ?_
      refine At.cond (b := decide (s = (⟨#[42]⟩ : ByteArray))) rfl (fun hc3 => ?_) (fun hc3 => ?_)
      · skip
        have hc3' := of_decide_eq_true hc3
        refine At.set (d := 5) (u := .bool true) rfl (congrArg Value.bool hc3) ?_
        refine At.skip ?_
        refine At.thenN ?_
        refine At.condT rfl ?_
        refine At.seq ?_
        refine At.region ?_
        refine At.assign rfl rfl ?_
        refine At.assign rfl rfl ?_
        refine At.ops0 ?_
        refine At.thenN ?_
        refine At.retc ?_
        refine At.inR ?_
        refine At.thenR ?_
        refine At.doneR (ResV.tmp rfl (ResV.tmp rfl ResV.nil)) ?_
        exact ⟨by simp only [primV, primN, hc1, hc2, hc3, Bool.true_or, Bool.or_true, Bool.false_or, Bool.or_false, if_true, if_false, Bool.false_eq_true] <;> rfl, rfl⟩
      · skip
        have hc3' := of_decide_eq_false hc3
        refine At.seq ?_
        refine At.region ?_
        refine At.eqS rfl rfl rfl ?_
        refine At.assign rfl rfl ?_
        refine At.ops0 ?_
        refine At.thenN ?_
        refine At.cond (b := decide (s = (⟨#[47]⟩ : ByteArray))) rfl (fun hc4 => ?_) (fun hc4 => ?_)
        · skip
          have hc4' := of_decide_eq_true hc4
          refine At.set (d := 5) (u := .bool true) rfl (congrArg Value.bool hc4) ?_
          refine At.skip ?_
          refine At.thenN ?_
          refine At.condT rfl ?_
          refine At.seq ?_
          refine At.region ?_
          refine At.assign rfl rfl ?_
          refine At.assign rfl rfl ?_
          refine At.ops0 ?_
          refine At.thenN ?_
          refine At.retc ?_
          refine At.inR ?_
          refine At.thenR ?_
          refine At.doneR (ResV.tmp rfl (ResV.tmp rfl ResV.nil)) ?_
          exact ⟨by simp only [primV, primN, hc1, hc2, hc3, hc4, Bool.true_or, Bool.or_true, Bool.false_or, Bool.or_false, if_true, if_false, Bool.false_eq_true] <;> rfl, rfl⟩
        · skip
          have hc4' := of_decide_eq_false hc4
          refine At.seq ?_
          refine At.region ?_
          refine At.eqS rfl rfl rfl ?_
          refine At.assign rfl rfl ?_
          refine At.ops0 ?_
          refine At.thenN ?_
          refine At.cond (b := decide (s = (⟨#[60]⟩ : ByteArray))) rfl (fun hc5 => ?_) (fun hc5 => ?_)
          · skip
            have hc5' := of_decide_eq_true hc5
            refine At.set (d := 5) (u := .bool true) rfl (congrArg Value.bool hc5) ?_
            refine At.skip ?_
            refine At.thenN ?_
            refine At.condT rfl ?_
            refine At.seq ?_
            refine At.region ?_
            refine At.assign rfl rfl ?_
            refine At.assign rfl rfl ?_
            refine At.ops0 ?_
            refine At.thenN ?_
            refine At.retc ?_
            refine At.inR ?_
            refine At.thenR ?_
            refine At.doneR (ResV.tmp rfl (ResV.tmp rfl ResV.nil)) ?_
            exact ⟨by simp only [primV, primN, hc1, hc2, hc3, hc4, hc5, Bool.true_or, Bool.or_true, Bool.false_or, Bool.or_false, if_true, if_false, Bool.false_eq_true] <;> rfl, rfl⟩
          · skip
            have hc5' := of_decide_eq_false hc5
            refine At.seq ?_
            refine At.region ?_
            refine At.eqS rfl rfl rfl ?_
            refine At.assign rfl rfl ?_
            refine At.ops0 ?_
            refine At.thenN ?_
            refine At.cond (b := decide (s = (⟨#[61]⟩ : ByteArray))) rfl (fun hc6 => ?_) (fun hc6 => ?_)
            · skip
              have hc6' := of_decide_eq_true hc6
              refine At.set (d := 5) (u := .bool true) rfl (congrArg Value.bool hc6) ?_
              refine At.skip ?_
              refine At.thenN ?_
              refine At.condT rfl ?_
              refine At.seq ?_
              refine At.region ?_
              refine At.assign rfl rfl ?_
              refine At.assign rfl rfl ?_
              refine At.ops0 ?_
              refine At.thenN ?_
              refine At.retc ?_
              refine At.inR ?_
              refine At.thenR ?_
              refine At.doneR (ResV.tmp rfl (ResV.tmp rfl ResV.nil)) ?_
              exact ⟨by simp only [primV, primN, hc1, hc2, hc3, hc4, hc5, hc6, Bool.true_or, Bool.or_true, Bool.false_or, Bool.or_false, if_true, if_false, Bool.false_eq_true] <;> rfl, rfl⟩
            · skip
              have hc6' := of_decide_eq_false hc6
              refine At.region ?_
              refine At.eqS rfl rfl rfl ?_
              refine At.assign rfl rfl ?_
              refine At.ops0 ?_
              refine At.thenN ?_
              refine At.cond (b := decide (s = (⟨#[58, 61]⟩ : ByteArray))) rfl (fun hc7 => ?_) (fun hc7 => ?_)
              · skip
                have hc7' := of_decide_eq_true hc7
                refine At.seq ?_
                refine At.region ?_
                refine At.assign rfl rfl ?_
                refine At.assign rfl rfl ?_
                refine At.ops0 ?_
                refine At.thenN ?_
                refine At.retc ?_
                refine At.inR ?_
                refine At.thenR ?_
                refine At.doneR (ResV.tmp rfl (ResV.tmp rfl ResV.nil)) ?_
                exact ⟨by simp only [primV, primN, hc1, hc2, hc3, hc4, hc5, hc6, hc7, Bool.true_or, Bool.or_true, Bool.false_or, Bool.or_false, if_true, if_false, Bool.false_eq_true] <;> rfl, rfl⟩
              · skip
                have hc7' := of_decide_eq_false hc7
                refine At.seq ?_
                refine At.seq ?_
                refine At.region ?_
                refine At.eqS rfl rfl rfl ?_
                refine At.assign rfl rfl ?_
                refine At.ops0 ?_
                refine At.thenN ?_
                refine At.cond (b := decide (s = (⟨#[112, 114, 105, 110, 116]⟩ : ByteArray))) rfl (fun hc8 => ?_) (fun hc8 => ?_)
                · skip
                  have hc8' := of_decide_eq_true hc8
                  refine At.set (d := 13) (u := .bool true) rfl (congrArg Value.bool hc8) ?_
                  refine At.skip ?_
                  refine At.thenN ?_
                  refine At.condT rfl ?_
                  refine At.seq ?_
                  refine At.region ?_
                  refine At.assign rfl rfl ?_
                  refine At.assign rfl rfl ?_
                  refine At.ops0 ?_
                  refine At.thenN ?_
                  refine At.retc ?_
                  refine At.inR ?_
                  refine At.thenR ?_
                  refine At.doneR (ResV.tmp rfl (ResV.tmp rfl ResV.nil)) ?_
                  exact ⟨by simp only [primV, primN, hc1, hc2, hc3, hc4, hc5, hc6, hc7, hc8, Bool.true_or, Bool.or_true, Bool.false_or, Bool.or_false, if_true, if_false, Bool.false_eq_true] <;> rfl, rfl⟩
                · skip
                  have hc8' := of_decide_eq_false hc8
                  refine At.seq ?_
                  refine At.region ?_
                  refine At.eqS rfl rfl rfl ?_
                  refine At.assign rfl rfl ?_
                  refine At.ops0 ?_
                  refine At.thenN ?_
                  refine At.cond (b := decide (s = (⟨#[114, 101, 102]⟩ : ByteArray))) rfl (fun hc9 => ?_) (fun hc9 => ?_)
                  · skip
                    have hc9' := of_decide_eq_true hc9
                    refine At.set (d := 13) (u := .bool true) rfl (congrArg Value.bool hc9) ?_
                    refine At.skip ?_
                    refine At.thenN ?_
                    refine At.condT rfl ?_
                    refine At.seq ?_
                    refine At.region ?_
                    refine At.assign rfl rfl ?_
                    refine At.assign rfl rfl ?_
                    refine At.ops0 ?_
                    refine At.thenN ?_
                    refine At.retc ?_
                    refine At.inR ?_
                    refine At.thenR ?_
                    refine At.doneR (ResV.tmp rfl (ResV.tmp rfl ResV.nil)) ?_
                    exact ⟨by simp only [primV, primN, hc1, hc2, hc3, hc4, hc5, hc6, hc7, hc8, hc9, Bool.true_or, Bool.or_true, Bool.false_or, Bool.or_false, if_true, if_false, Bool.false_eq_true] <;> rfl, rfl⟩
                  · skip
                    have hc9' := of_decide_eq_false hc9
                    refine At.region ?_
                    refine At.eqS rfl rfl rfl ?_
                    refine At.assign rfl rfl ?_
                    refine At.ops0 ?_
                    refine At.thenN ?_
                    refine At.cond (b := decide (s = (⟨#[33]⟩ : ByteArray))) rfl (fun hc10 => ?_) (fun hc10 => ?_)
                    · skip
                      have hc10' := of_decide_eq_true hc10
                      refine At.seq ?_
                      refine At.region ?_
                      refine At.assign rfl rfl ?_
                      refine At.assign rfl rfl ?_
                      refine At.ops0 ?_
                      refine At.thenN ?_
                      refine At.retc ?_
                      refine At.inR ?_
                      refine At.thenR ?_
                      refine At.doneR (ResV.tmp rfl (ResV.tmp rfl ResV.nil)) ?_
                      exact ⟨by simp only [primV, primN, hc1, hc2, hc3, hc4, hc5, hc6, hc7, hc8, hc9, hc10, Bool.true_or, Bool.or_true, Bool.false_or, Bool.or_false, if_true, if_false, Bool.false_eq_true] <;> rfl, rfl⟩
                    · skip
                      have hc10' := of_decide_eq_false hc10
                      refine At.skip ?_
                      refine At.inN ?_
                      refine At.thenN ?_
                      refine At.seq ?_
                      refine At.region ?_
                      refine At.move rfl rfl ?_
                      refine At.eqS rfl rfl rfl ?_
                      refine At.assign rfl rfl ?_
                      refine At.assign rfl rfl ?_
                      refine At.ops0 ?_
                      refine At.thenN ?_
                      refine At.retc ?_
                      refine At.doneR (ResV.tmp rfl (ResV.tmp rfl ResV.nil)) ?_
                      exact ⟨by simp only [primV, primN, hc1, hc2, hc3, hc4, hc5, hc6, hc7, hc8, hc9, hc10, Bool.true_or, Bool.or_true, Bool.false_or, Bool.or_false, if_true, if_false, Bool.false_eq_true] <;> rfl, rfl⟩
theorem refPrims_any (s : ByteArray) (w : World)  :
    Calls Try.prog 21 ([.string s] : List Value).toArray w fun e w' => e = .returned (primV s) ∧ w = w' := by
  have hB := Below.refl w.heap.size w
  refine At.enter (N := 19) Try.func21 rfl rfl (by simp) [(0, .string s)] (by simp) ?_
  refine At.seq ?_
  refine At.region ?_
  refine At.assign rfl rfl ?_
  refine At.assign rfl rfl ?_
  refine At.ops0 ?_
  refine At.thenN ?_
  refine At.seq ?_
  refine At.seq ?_
  refine At.region ?_
  refine At.move rfl rfl ?_
  refine At.ops0 ?_
  refine At.thenN ?_
  refine At.block ?_
  refine At.seq ?_
  refine At.seq ?_
  refine At.region ?_
  refine At.eqS rfl rfl rfl ?_
  refine At.assign rfl rfl ?_
  refine At.ops0 ?_
  refine At.thenN ?_
  refine At.cond (b := decide (s = (⟨#[43]⟩ : ByteArray))) rfl (fun hc1 => ?_) (fun hc1 => ?_)
  · skip
    have hc1' := of_decide_eq_true hc1
    refine At.set (d := 5) (u := .bool true) rfl (congrArg Value.bool hc1) ?_
    refine At.skip ?_
    refine At.thenN ?_
    refine At.condT rfl ?_
    refine At.seq ?_
    refine At.region ?_
    refine At.assign rfl rfl ?_
    refine At.assign rfl rfl ?_
    refine At.ops0 ?_
    refine At.thenN ?_
    refine At.retc ?_
    refine At.inR ?_
    refine At.thenR ?_
    refine At.doneR (ResV.tmp rfl (ResV.tmp rfl ResV.nil)) ?_
    exact ⟨by simp only [primV, primN, hc1, Bool.true_or, Bool.or_true, Bool.false_or, Bool.or_false, if_true, if_false, Bool.false_eq_true] <;> rfl, rfl⟩
  · skip
    have hc1' := of_decide_eq_false hc1
    refine At.seq ?_
    refine At.region ?_
    refine At.eqS rfl rfl rfl ?_
    refine At.assign rfl rfl ?_
    refine At.ops0 ?_
    refine At.thenN ?_
    refine At.cond (b := decide (s = (⟨#[45]⟩ : ByteArray))) rfl (fun hc2 => ?_) (fun hc2 => ?_)
    · skip
      have hc2' := of_decide_eq_true hc2
      refine At.set (d := 5) (u := .bool true) rfl (congrArg Value.bool hc2) ?_
      refine At.skip ?_
      refine At.thenN ?_
      refine At.condT rfl ?_
      refine At.seq ?_
      refine At.region ?_
      refine At.assign rfl rfl ?_
      refine At.assign rfl rfl ?_
      refine At.ops0 ?_
      refine At.thenN ?_
      refine At.retc ?_
      refine At.inR ?_
      refine At.thenR ?_
      refine At.doneR (ResV.tmp rfl (ResV.tmp rfl ResV.nil)) ?_
      exact ⟨by simp only [primV, primN, hc1, hc2, Bool.true_or, Bool.or_true, Bool.false_or, Bool.or_false, if_true, if_false, Bool.false_eq_true] <;> rfl, rfl⟩
    · skip
      have hc2' := of_decide_eq_false hc2
      refine At.seq ?_
      refine At.region ?_
      refine At.eqS rfl rfl rfl ?_
      refine At.assign rfl rfl ?_
      refine At.ops0 ?_
      refine At.thenN ?_
      refine At.cond (b := decide (s = (⟨#[42]⟩ : ByteArray))) rfl (fun hc3 => ?_) (fun hc3 => ?_)
      · skip
        have hc3' := of_decide_eq_true hc3
        refine At.set (d := 5) (u := .bool true) rfl (congrArg Value.bool hc3) ?_
        refine At.skip ?_
        refine At.thenN ?_
        refine At.condT rfl ?_
        refine At.seq ?_
        refine At.region ?_
        refine At.assign rfl rfl ?_
        refine At.assign rfl rfl ?_
        refine At.ops0 ?_
        refine At.thenN ?_
        refine At.retc ?_
        refine At.inR ?_
        refine At.thenR ?_
        refine At.doneR (ResV.tmp rfl (ResV.tmp rfl ResV.nil)) ?_
        exact ⟨by simp only [primV, primN, hc1, hc2, hc3, Bool.true_or, Bool.or_true, Bool.false_or, Bool.or_false, if_true, if_false, Bool.false_eq_true] <;> rfl, rfl⟩
      · skip
        have hc3' := of_decide_eq_false hc3
        refine At.seq ?_
        refine At.region ?_
        refine At.eqS rfl rfl rfl ?_
        refine At.assign rfl rfl ?_
        refine At.ops0 ?_
        refine At.thenN ?_
        refine At.cond (b := decide (s = (⟨#[47]⟩ : ByteArray))) rfl (fun hc4 => ?_) (fun hc4 => ?_)
        · skip
          have hc4' := of_decide_eq_true hc4
          refine At.set (d := 5) (u := .bool true) rfl (congrArg Value.bool hc4) ?_
          refine At.skip ?_
          refine At.thenN ?_
          refine At.condT rfl ?_
          refine At.seq ?_
          refine At.region ?_
          refine At.assign rfl rfl ?_
          refine At.assign rfl rfl ?_
          refine At.ops0 ?_
          refine At.thenN ?_
          refine At.retc ?_
          refine At.inR ?_
          refine At.thenR ?_
          refine At.doneR (ResV.tmp rfl (ResV.tmp rfl ResV.nil)) ?_
          exact ⟨by simp only [primV, primN, hc1, hc2, hc3, hc4, Bool.true_or, Bool.or_true, Bool.false_or, Bool.or_false, if_true, if_false, Bool.false_eq_true] <;> rfl, rfl⟩
        · skip
          have hc4' := of_decide_eq_false hc4
          refine At.seq ?_
          refine At.region ?_
          refine At.eqS rfl rfl rfl ?_
          refine At.assign rfl rfl ?_
          refine At.ops0 ?_
          refine At.thenN ?_
          refine At.cond (b := decide (s = (⟨#[60]⟩ : ByteArray))) rfl (fun hc5 => ?_) (fun hc5 => ?_)
          · skip
            have hc5' := of_decide_eq_true hc5
            refine At.set (d := 5) (u := .bool true) rfl (congrArg Value.bool hc5) ?_
            refine At.skip ?_
            refine At.thenN ?_
            refine At.condT rfl ?_
            refine At.seq ?_
            refine At.region ?_
            refine At.assign rfl rfl ?_
            refine At.assign rfl rfl ?_
            refine At.ops0 ?_
            refine At.thenN ?_
            refine At.retc ?_
            refine At.inR ?_
            refine At.thenR ?_
            refine At.doneR (ResV.tmp rfl (ResV.tmp rfl ResV.nil)) ?_
            exact ⟨by simp only [primV, primN, hc1, hc2, hc3, hc4, hc5, Bool.true_or, Bool.or_true, Bool.false_or, Bool.or_false, if_true, if_false, Bool.false_eq_true] <;> rfl, rfl⟩
          · skip
            have hc5' := of_decide_eq_false hc5
            refine At.seq ?_
            refine At.region ?_
            refine At.eqS rfl rfl rfl ?_
            refine At.assign rfl rfl ?_
            refine At.ops0 ?_
            refine At.thenN ?_
            refine At.cond (b := decide (s = (⟨#[61]⟩ : ByteArray))) rfl (fun hc6 => ?_) (fun hc6 => ?_)
            · skip
              have hc6' := of_decide_eq_true hc6
              refine At.set (d := 5) (u := .bool true) rfl (congrArg Value.bool hc6) ?_
              refine At.skip ?_
              refine At.thenN ?_
              refine At.condT rfl ?_
              refine At.seq ?_
              refine At.region ?_
              refine At.assign rfl rfl ?_
              refine At.assign rfl rfl ?_
              refine At.ops0 ?_
              refine At.thenN ?_
              refine At.retc ?_
              refine At.inR ?_
              refine At.thenR ?_
              refine At.doneR (ResV.tmp rfl (ResV.tmp rfl ResV.nil)) ?_
              exact ⟨by simp only [primV, primN, hc1, hc2, hc3, hc4, hc5, hc6, Bool.true_or, Bool.or_true, Bool.false_or, Bool.or_false, if_true, if_false, Bool.false_eq_true] <;> rfl, rfl⟩
            · skip
              have hc6' := of_decide_eq_false hc6
              refine At.region ?_
              refine At.eqS rfl rfl rfl ?_
              refine At.assign rfl rfl ?_
              refine At.ops0 ?_
              refine At.thenN ?_
              refine At.cond (b := decide (s = (⟨#[58, 61]⟩ : ByteArray))) rfl (fun hc7 => ?_) (fun hc7 => ?_)
              · skip
                have hc7' := of_decide_eq_true hc7
                refine At.seq ?_
                refine At.region ?_
                refine At.assign rfl rfl ?_
                refine At.assign rfl rfl ?_
                refine At.ops0 ?_
                refine At.thenN ?_
                refine At.retc ?_
                refine At.inR ?_
                refine At.thenR ?_
                refine At.doneR (ResV.tmp rfl (ResV.tmp rfl ResV.nil)) ?_
                exact ⟨by simp only [primV, primN, hc1, hc2, hc3, hc4, hc5, hc6, hc7, Bool.true_or, Bool.or_true, Bool.false_or, Bool.or_false, if_true, if_false, Bool.false_eq_true] <;> rfl, rfl⟩
              · skip
                have hc7' := of_decide_eq_false hc7
                refine At.seq ?_
                refine At.seq ?_
                refine At.region ?_
                refine At.eqS rfl rfl rfl ?_
                refine At.assign rfl rfl ?_
                refine At.ops0 ?_
                refine At.thenN ?_
                refine At.cond (b := decide (s = (⟨#[112, 114, 105, 110, 116]⟩ : ByteArray))) rfl (fun hc8 => ?_) (fun hc8 => ?_)
                · skip
                  have hc8' := of_decide_eq_true hc8
                  refine At.set (d := 13) (u := .bool true) rfl (congrArg Value.bool hc8) ?_
                  refine At.skip ?_
                  refine At.thenN ?_
                  refine At.condT rfl ?_
                  refine At.seq ?_
                  refine At.region ?_
                  refine At.assign rfl rfl ?_
                  refine At.assign rfl rfl ?_
                  refine At.ops0 ?_
                  refine At.thenN ?_
                  refine At.retc ?_
                  refine At.inR ?_
                  refine At.thenR ?_
                  refine At.doneR (ResV.tmp rfl (ResV.tmp rfl ResV.nil)) ?_
                  exact ⟨by simp only [primV, primN, hc1, hc2, hc3, hc4, hc5, hc6, hc7, hc8, Bool.true_or, Bool.or_true, Bool.false_or, Bool.or_false, if_true, if_false, Bool.false_eq_true] <;> rfl, rfl⟩
                · skip
                  have hc8' := of_decide_eq_false hc8
                  refine At.seq ?_
                  refine At.region ?_
                  refine At.eqS rfl rfl rfl ?_
                  refine At.assign rfl rfl ?_
                  refine At.ops0 ?_
                  refine At.thenN ?_
                  refine At.cond (b := decide (s = (⟨#[114, 101, 102]⟩ : ByteArray))) rfl (fun hc9 => ?_) (fun hc9 => ?_)
                  · skip
                    have hc9' := of_decide_eq_true hc9
                    refine At.set (d := 13) (u := .bool true) rfl (congrArg Value.bool hc9) ?_
                    refine At.skip ?_
                    refine At.thenN ?_
                    refine At.condT rfl ?_
                    refine At.seq ?_
                    refine At.region ?_
                    refine At.assign rfl rfl ?_
                    refine At.assign rfl rfl ?_
                    refine At.ops0 ?_
                    refine At.thenN ?_
                    refine At.retc ?_
                    refine At.inR ?_
                    refine At.thenR ?_
                    refine At.doneR (ResV.tmp rfl (ResV.tmp rfl ResV.nil)) ?_
                    exact ⟨by simp only [primV, primN, hc1, hc2, hc3, hc4, hc5, hc6, hc7, hc8, hc9, Bool.true_or, Bool.or_true, Bool.false_or, Bool.or_false, if_true, if_false, Bool.false_eq_true] <;> rfl, rfl⟩
                  · skip
                    have hc9' := of_decide_eq_false hc9
                    refine At.region ?_
                    refine At.eqS rfl rfl rfl ?_
                    refine At.assign rfl rfl ?_
                    refine At.ops0 ?_
                    refine At.thenN ?_
                    refine At.cond (b := decide (s = (⟨#[33]⟩ : ByteArray))) rfl (fun hc10 => ?_) (fun hc10 => ?_)
                    · skip
                      have hc10' := of_decide_eq_true hc10
                      refine At.seq ?_
                      refine At.region ?_
                      refine At.assign rfl rfl ?_
                      refine At.assign rfl rfl ?_
                      refine At.ops0 ?_
                      refine At.thenN ?_
                      refine At.retc ?_
                      refine At.inR ?_
                      refine At.thenR ?_
                      refine At.doneR (ResV.tmp rfl (ResV.tmp rfl ResV.nil)) ?_
                      exact ⟨by simp only [primV, primN, hc1, hc2, hc3, hc4, hc5, hc6, hc7, hc8, hc9, hc10, Bool.true_or, Bool.or_true, Bool.false_or, Bool.or_false, if_true, if_false, Bool.false_eq_true] <;> rfl, rfl⟩
                    · skip
                      have hc10' := of_decide_eq_false hc10
                      refine At.seq ?_
                      refine At.region ?_
                      refine At.eqS rfl rfl rfl ?_
                      refine At.assign rfl rfl ?_
                      refine At.ops0 ?_
                      refine At.thenN ?_
                      refine At.cond (b := decide (s = (⟨#[114, 101, 97, 100]⟩ : ByteArray))) rfl (fun hc11 => ?_) (fun hc11 => ?_)
                      · skip
                        have hc11' := of_decide_eq_true hc11
                        refine At.seq ?_
                        refine At.region ?_
                        refine At.assign rfl rfl ?_
                        refine At.assign rfl rfl ?_
                        refine At.ops0 ?_
                        refine At.thenN ?_
                        refine At.retc ?_
                        refine At.inR ?_
                        refine At.thenR ?_
                        refine At.doneR (ResV.tmp rfl (ResV.tmp rfl ResV.nil)) ?_
                        exact ⟨by simp only [primV, primN, hc1, hc2, hc3, hc4, hc5, hc6, hc7, hc8, hc9, hc10, hc11, Bool.true_or, Bool.or_true, Bool.false_or, Bool.or_false, if_true, if_false, Bool.false_eq_true] <;> rfl, rfl⟩
                      · skip
                        have hc11' := of_decide_eq_false hc11
                        refine At.skip ?_
                        refine At.inN ?_
                        refine At.thenN ?_
                        refine At.seq ?_
                        refine At.region ?_
                        refine At.assign rfl rfl ?_
                        refine At.assign rfl rfl ?_
                        refine At.ops0 ?_
                        refine At.thenN ?_
                        refine At.retc ?_
                        refine At.doneR (ResV.tmp rfl (ResV.tmp rfl ResV.nil)) ?_
                        exact ⟨by simp only [primV, primN, hc1, hc2, hc3, hc4, hc5, hc6, hc7, hc8, hc9, hc10, hc11, Bool.true_or, Bool.or_true, Bool.false_or, Bool.or_false, if_true, if_false, Bool.false_eq_true] <;> rfl, rfl⟩
theorem kids_any (k : Int) (w : World)  :
    Calls Try.prog 56 ([.int .i64 k] : List Value).toArray w fun e w' => e = .returned (.int .i64 (kidsN k)) ∧ w = w' := by
  have hB := Below.refl w.heap.size w
  refine At.enter (N := 23) Try.func56 rfl rfl (by simp) [(0, .int .i64 k)] (by simp) ?_
  refine At.seq ?_
  refine At.region ?_
  refine At.assign rfl rfl ?_
  refine At.ops0 ?_
  refine At.thenN ?_
  refine At.seq ?_
  refine At.seq ?_
  refine At.region ?_
  refine At.move rfl rfl ?_
  refine At.ops0 ?_
  refine At.thenN ?_
  refine At.block ?_
  refine At.seq ?_
  refine At.seq ?_
  refine At.region ?_
  refine At.eqI rfl rfl rfl ?_
  refine At.assign rfl rfl ?_
  refine At.ops0 ?_
  refine At.thenN ?_
  refine At.cond (b := decide (k = 1)) rfl (fun hc1 => ?_) (fun hc1 => ?_)
  · skip
    have hc1' := of_decide_eq_true hc1
    refine At.set (d := 4) (u := .bool true) rfl (congrArg Value.bool hc1) ?_
    refine At.skip ?_
    refine At.thenN ?_
    refine At.condT rfl ?_
    refine At.seq ?_
    refine At.region ?_
    refine At.assign rfl rfl ?_
    refine At.ops0 ?_
    refine At.thenN ?_
    refine At.retc ?_
    refine At.inR ?_
    refine At.thenR ?_
    refine At.doneR (ResV.tmp rfl ResV.nil) ?_
    exact ⟨congrArg Ending.returned (congrArg (Value.int .i64) (by simp only [kidsN, hc1, Bool.true_or, Bool.or_true, Bool.false_or, Bool.or_false, if_true, if_false, Bool.false_eq_true])), rfl⟩
  · skip
    have hc1' := of_decide_eq_false hc1
    refine At.seq ?_
    refine At.region ?_
    refine At.eqI rfl rfl rfl ?_
    refine At.assign rfl rfl ?_
    refine At.ops0 ?_
    refine At.thenN ?_
    refine At.cond (b := decide (k = 2)) rfl (fun hc2 => ?_) (fun hc2 => ?_)
    · skip
      have hc2' := of_decide_eq_true hc2
      refine At.set (d := 4) (u := .bool true) rfl (congrArg Value.bool hc2) ?_
      refine At.skip ?_
      refine At.thenN ?_
      refine At.condT rfl ?_
      refine At.seq ?_
      refine At.region ?_
      refine At.assign rfl rfl ?_
      refine At.ops0 ?_
      refine At.thenN ?_
      refine At.retc ?_
      refine At.inR ?_
      refine At.thenR ?_
      refine At.doneR (ResV.tmp rfl ResV.nil) ?_
      exact ⟨congrArg Ending.returned (congrArg (Value.int .i64) (by simp only [kidsN, hc1, hc2, Bool.true_or, Bool.or_true, Bool.false_or, Bool.or_false, if_true, if_false, Bool.false_eq_true])), rfl⟩
    · skip
      have hc2' := of_decide_eq_false hc2
      refine At.seq ?_
      refine At.region ?_
      refine At.eqI rfl rfl rfl ?_
      refine At.assign rfl rfl ?_
      refine At.ops0 ?_
      refine At.thenN ?_
      refine At.cond (b := decide (k = 3)) rfl (fun hc3 => ?_) (fun hc3 => ?_)
      · skip
        have hc3' := of_decide_eq_true hc3
        refine At.set (d := 4) (u := .bool true) rfl (congrArg Value.bool hc3) ?_
        refine At.skip ?_
        refine At.thenN ?_
        refine At.condT rfl ?_
        refine At.seq ?_
        refine At.region ?_
        refine At.assign rfl rfl ?_
        refine At.ops0 ?_
        refine At.thenN ?_
        refine At.retc ?_
        refine At.inR ?_
        refine At.thenR ?_
        refine At.doneR (ResV.tmp rfl ResV.nil) ?_
        exact ⟨congrArg Ending.returned (congrArg (Value.int .i64) (by simp only [kidsN, hc1, hc2, hc3, Bool.true_or, Bool.or_true, Bool.false_or, Bool.or_false, if_true, if_false, Bool.false_eq_true])), rfl⟩
      · skip
        have hc3' := of_decide_eq_false hc3
        refine At.region ?_
        refine At.eqI rfl rfl rfl ?_
        refine At.assign rfl rfl ?_
        refine At.ops0 ?_
        refine At.thenN ?_
        refine At.cond (b := decide (k = 4)) rfl (fun hc4 => ?_) (fun hc4 => ?_)
        · skip
          have hc4' := of_decide_eq_true hc4
          refine At.seq ?_
          refine At.region ?_
          refine At.assign rfl rfl ?_
          refine At.ops0 ?_
          refine At.thenN ?_
          refine At.retc ?_
          refine At.inR ?_
          refine At.thenR ?_
          refine At.doneR (ResV.tmp rfl ResV.nil) ?_
          exact ⟨congrArg Ending.returned (congrArg (Value.int .i64) (by simp only [kidsN, hc1, hc2, hc3, hc4, Bool.true_or, Bool.or_true, Bool.false_or, Bool.or_false, if_true, if_false, Bool.false_eq_true])), rfl⟩
        · skip
          have hc4' := of_decide_eq_false hc4
          refine At.seq ?_
          refine At.seq ?_
          refine At.region ?_
          refine At.eqI rfl rfl rfl ?_
          refine At.assign rfl rfl ?_
          refine At.ops0 ?_
          refine At.thenN ?_
          refine At.cond (b := decide (k = 5)) rfl (fun hc5 => ?_) (fun hc5 => ?_)
          · skip
            have hc5' := of_decide_eq_true hc5
            refine At.set (d := 9) (u := .bool true) rfl (congrArg Value.bool hc5) ?_
            refine At.skip ?_
            refine At.thenN ?_
            refine At.condT rfl ?_
            refine At.seq ?_
            refine At.region ?_
            refine At.assign rfl rfl ?_
            refine At.ops0 ?_
            refine At.thenN ?_
            refine At.retc ?_
            refine At.inR ?_
            refine At.thenR ?_
            refine At.doneR (ResV.tmp rfl ResV.nil) ?_
            exact ⟨congrArg Ending.returned (congrArg (Value.int .i64) (by simp only [kidsN, hc1, hc2, hc3, hc4, hc5, Bool.true_or, Bool.or_true, Bool.false_or, Bool.or_false, if_true, if_false, Bool.false_eq_true])), rfl⟩
          · skip
            have hc5' := of_decide_eq_false hc5
            refine At.seq ?_
            refine At.region ?_
            refine At.eqI rfl rfl rfl ?_
            refine At.assign rfl rfl ?_
            refine At.ops0 ?_
            refine At.thenN ?_
            refine At.cond (b := decide (k = 12)) rfl (fun hc6 => ?_) (fun hc6 => ?_)
            · skip
              have hc6' := of_decide_eq_true hc6
              refine At.set (d := 9) (u := .bool true) rfl (congrArg Value.bool hc6) ?_
              refine At.skip ?_
              refine At.thenN ?_
              refine At.condT rfl ?_
              refine At.seq ?_
              refine At.region ?_
              refine At.assign rfl rfl ?_
              refine At.ops0 ?_
              refine At.thenN ?_
              refine At.retc ?_
              refine At.inR ?_
              refine At.thenR ?_
              refine At.doneR (ResV.tmp rfl ResV.nil) ?_
              exact ⟨congrArg Ending.returned (congrArg (Value.int .i64) (by simp only [kidsN, hc1, hc2, hc3, hc4, hc5, hc6, Bool.true_or, Bool.or_true, Bool.false_or, Bool.or_false, if_true, if_false, Bool.false_eq_true])), rfl⟩
            · skip
              have hc6' := of_decide_eq_false hc6
              refine At.seq ?_
              refine At.region ?_
              refine At.eqI rfl rfl rfl ?_
              refine At.assign rfl rfl ?_
              refine At.ops0 ?_
              refine At.thenN ?_
              refine At.cond (b := decide (k = 13)) rfl (fun hc7 => ?_) (fun hc7 => ?_)
              · skip
                have hc7' := of_decide_eq_true hc7
                refine At.set (d := 9) (u := .bool true) rfl (congrArg Value.bool hc7) ?_
                refine At.skip ?_
                refine At.thenN ?_
                refine At.condT rfl ?_
                refine At.seq ?_
                refine At.region ?_
                refine At.assign rfl rfl ?_
                refine At.ops0 ?_
                refine At.thenN ?_
                refine At.retc ?_
                refine At.inR ?_
                refine At.thenR ?_
                refine At.doneR (ResV.tmp rfl ResV.nil) ?_
                exact ⟨congrArg Ending.returned (congrArg (Value.int .i64) (by simp only [kidsN, hc1, hc2, hc3, hc4, hc5, hc6, hc7, Bool.true_or, Bool.or_true, Bool.false_or, Bool.or_false, if_true, if_false, Bool.false_eq_true])), rfl⟩
              · skip
                have hc7' := of_decide_eq_false hc7
                refine At.region ?_
                refine At.eqI rfl rfl rfl ?_
                refine At.assign rfl rfl ?_
                refine At.ops0 ?_
                refine At.thenN ?_
                refine At.cond (b := decide (k = 14)) rfl (fun hc8 => ?_) (fun hc8 => ?_)
                · skip
                  have hc8' := of_decide_eq_true hc8
                  refine At.seq ?_
                  refine At.region ?_
                  refine At.assign rfl rfl ?_
                  refine At.ops0 ?_
                  refine At.thenN ?_
                  refine At.retc ?_
                  refine At.inR ?_
                  refine At.thenR ?_
                  refine At.doneR (ResV.tmp rfl ResV.nil) ?_
                  exact ⟨congrArg Ending.returned (congrArg (Value.int .i64) (by simp only [kidsN, hc1, hc2, hc3, hc4, hc5, hc6, hc7, hc8, Bool.true_or, Bool.or_true, Bool.false_or, Bool.or_false, if_true, if_false, Bool.false_eq_true])), rfl⟩
                · skip
                  have hc8' := of_decide_eq_false hc8
                  refine At.seq ?_
                  refine At.seq ?_
                  refine At.region ?_
                  refine At.eqI rfl rfl rfl ?_
                  refine At.assign rfl rfl ?_
                  refine At.ops0 ?_
                  refine At.thenN ?_
                  refine At.cond (b := decide (k = 6)) rfl (fun hc9 => ?_) (fun hc9 => ?_)
                  · skip
                    have hc9' := of_decide_eq_true hc9
                    refine At.set (d := 14) (u := .bool true) rfl (congrArg Value.bool hc9) ?_
                    refine At.skip ?_
                    refine At.thenN ?_
                    refine At.condT rfl ?_
                    refine At.seq ?_
                    refine At.region ?_
                    refine At.assign rfl rfl ?_
                    refine At.ops0 ?_
                    refine At.thenN ?_
                    refine At.retc ?_
                    refine At.inR ?_
                    refine At.thenR ?_
                    refine At.doneR (ResV.tmp rfl ResV.nil) ?_
                    exact ⟨congrArg Ending.returned (congrArg (Value.int .i64) (by simp only [kidsN, hc1, hc2, hc3, hc4, hc5, hc6, hc7, hc8, hc9, Bool.true_or, Bool.or_true, Bool.false_or, Bool.or_false, if_true, if_false, Bool.false_eq_true])), rfl⟩
                  · skip
                    have hc9' := of_decide_eq_false hc9
                    refine At.seq ?_
                    refine At.region ?_
                    refine At.eqI rfl rfl rfl ?_
                    refine At.assign rfl rfl ?_
                    refine At.ops0 ?_
                    refine At.thenN ?_
                    refine At.cond (b := decide (k = 7)) rfl (fun hc10 => ?_) (fun hc10 => ?_)
                    · skip
                      have hc10' := of_decide_eq_true hc10
                      refine At.set (d := 14) (u := .bool true) rfl (congrArg Value.bool hc10) ?_
                      refine At.skip ?_
                      refine At.thenN ?_
                      refine At.condT rfl ?_
                      refine At.seq ?_
                      refine At.region ?_
                      refine At.assign rfl rfl ?_
                      refine At.ops0 ?_
                      refine At.thenN ?_
                      refine At.retc ?_
                      refine At.inR ?_
                      refine At.thenR ?_
                      refine At.doneR (ResV.tmp rfl ResV.nil) ?_
                      exact ⟨congrArg Ending.returned (congrArg (Value.int .i64) (by simp only [kidsN, hc1, hc2, hc3, hc4, hc5, hc6, hc7, hc8, hc9, hc10, Bool.true_or, Bool.or_true, Bool.false_or, Bool.or_false, if_true, if_false, Bool.false_eq_true])), rfl⟩
                    · skip
                      have hc10' := of_decide_eq_false hc10
                      refine At.region ?_
                      refine At.eqI rfl rfl rfl ?_
                      refine At.assign rfl rfl ?_
                      refine At.ops0 ?_
                      refine At.thenN ?_
                      refine At.cond (b := decide (k = 8)) rfl (fun hc11 => ?_) (fun hc11 => ?_)
                      · skip
                        have hc11' := of_decide_eq_true hc11
                        refine At.seq ?_
                        refine At.region ?_
                        refine At.assign rfl rfl ?_
                        refine At.ops0 ?_
                        refine At.thenN ?_
                        refine At.retc ?_
                        refine At.inR ?_
                        refine At.thenR ?_
                        refine At.doneR (ResV.tmp rfl ResV.nil) ?_
                        exact ⟨congrArg Ending.returned (congrArg (Value.int .i64) (by simp only [kidsN, hc1, hc2, hc3, hc4, hc5, hc6, hc7, hc8, hc9, hc10, hc11, Bool.true_or, Bool.or_true, Bool.false_or, Bool.or_false, if_true, if_false, Bool.false_eq_true])), rfl⟩
                      · skip
                        have hc11' := of_decide_eq_false hc11
                        refine At.seq ?_
                        refine At.region ?_
                        refine At.eqI rfl rfl rfl ?_
                        refine At.assign rfl rfl ?_
                        refine At.ops0 ?_
                        refine At.thenN ?_
                        refine At.cond (b := decide (k = 9)) rfl (fun hc12 => ?_) (fun hc12 => ?_)
                        · skip
                          have hc12' := of_decide_eq_true hc12
                          refine At.seq ?_
                          refine At.region ?_
                          refine At.assign rfl rfl ?_
                          refine At.ops0 ?_
                          refine At.thenN ?_
                          refine At.retc ?_
                          refine At.inR ?_
                          refine At.thenR ?_
                          refine At.doneR (ResV.tmp rfl ResV.nil) ?_
                          exact ⟨congrArg Ending.returned (congrArg (Value.int .i64) (by simp only [kidsN, hc1, hc2, hc3, hc4, hc5, hc6, hc7, hc8, hc9, hc10, hc11, hc12, Bool.true_or, Bool.or_true, Bool.false_or, Bool.or_false, if_true, if_false, Bool.false_eq_true])), rfl⟩
                        · skip
                          have hc12' := of_decide_eq_false hc12
                          refine At.seq ?_
                          refine At.seq ?_
                          refine At.region ?_
                          refine At.eqI rfl rfl rfl ?_
                          refine At.assign rfl rfl ?_
                          refine At.ops0 ?_
                          refine At.thenN ?_
                          refine At.cond (b := decide (k = 10)) rfl (fun hc13 => ?_) (fun hc13 => ?_)
                          · skip
                            have hc13' := of_decide_eq_true hc13
                            refine At.set (d := 20) (u := .bool true) rfl (congrArg Value.bool hc13) ?_
                            refine At.skip ?_
                            refine At.thenN ?_
                            refine At.condT rfl ?_
                            refine At.seq ?_
                            refine At.region ?_
                            refine At.assign rfl rfl ?_
                            refine At.ops0 ?_
                            refine At.thenN ?_
                            refine At.retc ?_
                            refine At.inR ?_
                            refine At.thenR ?_
                            refine At.doneR (ResV.tmp rfl ResV.nil) ?_
                            exact ⟨congrArg Ending.returned (congrArg (Value.int .i64) (by simp only [kidsN, hc1, hc2, hc3, hc4, hc5, hc6, hc7, hc8, hc9, hc10, hc11, hc12, hc13, Bool.true_or, Bool.or_true, Bool.false_or, Bool.or_false, if_true, if_false, Bool.false_eq_true])), rfl⟩
                          · skip
                            have hc13' := of_decide_eq_false hc13
                            refine At.region ?_
                            refine At.eqI rfl rfl rfl ?_
                            refine At.assign rfl rfl ?_
                            refine At.ops0 ?_
                            refine At.thenN ?_
                            refine At.cond (b := decide (k = 11)) rfl (fun hc14 => ?_) (fun hc14 => ?_)
                            · skip
                              have hc14' := of_decide_eq_true hc14
                              refine At.seq ?_
                              refine At.region ?_
                              refine At.assign rfl rfl ?_
                              refine At.ops0 ?_
                              refine At.thenN ?_
                              refine At.retc ?_
                              refine At.inR ?_
                              refine At.thenR ?_
                              refine At.doneR (ResV.tmp rfl ResV.nil) ?_
                              exact ⟨congrArg Ending.returned (congrArg (Value.int .i64) (by simp only [kidsN, hc1, hc2, hc3, hc4, hc5, hc6, hc7, hc8, hc9, hc10, hc11, hc12, hc13, hc14, Bool.true_or, Bool.or_true, Bool.false_or, Bool.or_false, if_true, if_false, Bool.false_eq_true])), rfl⟩
                            · skip
                              have hc14' := of_decide_eq_false hc14
                              refine At.skip ?_
                              refine At.inN ?_
                              refine At.thenN ?_
                              refine At.seq ?_
                              refine At.region ?_
                              refine At.assign rfl rfl ?_
                              refine At.ops0 ?_
                              refine At.thenN ?_
                              refine At.retc ?_
                              refine At.doneR (ResV.tmp rfl ResV.nil) ?_
                              exact ⟨congrArg Ending.returned (congrArg (Value.int .i64) (by simp only [kidsN, hc1, hc2, hc3, hc4, hc5, hc6, hc7, hc8, hc9, hc10, hc11, hc12, hc13, hc14, Bool.true_or, Bool.or_true, Bool.false_or, Bool.or_false, if_true, if_false, Bool.false_eq_true])), rfl⟩
theorem in_any (v : Value) (ss : List ByteArray) (s : ByteArray) (w : World) (hv : StrsAt w v ss) (hl : ss.length ≤ 9223372036854775807) :
    Calls Try.prog 44 ([v, .string s] : List Value).toArray w fun e w' => e = .returned (.bool (memB s ss)) ∧ w = w' := by
  have hB := Below.refl w.heap.size w
  refine At.enter (N := 18) Try.func44 rfl rfl (by simp) [(0, v), (1, .string s)] (by simp) ?_
  refine At.seq ?_
  refine At.region ?_
  refine At.assign rfl rfl ?_
  refine At.ops0 ?_
  refine At.thenN ?_
  refine At.seq ?_
  refine At.seq ?_
  refine At.region ?_
  refine At.assign rfl rfl ?_
  refine At.ops0 ?_
  refine At.thenN ?_
  refine At.block ?_
  refine At.loop (Nat) (fun k => [(0, v), (1, .string s), (5, .int .i64 (k : Int))]) (fun k w1 => w = w1 ∧ (k ≤ ss.length) ∧ (∀ i x, i < k → ss[i]? = some x → (fun x : ByteArray => decide (x = s)) x = false)) (fun k => ss.length - k) (0 : Nat) (Sub.cons rfl (Sub.cons rfl (Sub.cons rfl Sub.nil))) ⟨rfl, (Nat.zero_le _), (fun j x hj => absurd hj (Nat.not_lt_zero j))⟩ (fun k w1 hI => ?_)
  obtain ⟨rfl, hk, hn⟩ := hI
  show At _ _ [(0, v), (1, .string s), (5, .int .i64 (k : Int))] _ _
  refine At.seq ?_
  refine At.seq ?_
  refine At.region ?_
  refine At.move rfl rfl ?_
  refine At.move rfl rfl ?_
  refine At.lenSl rfl (hv).ok el27 rfl ?_
  refine At.lss rfl rfl rfl ?_
  refine At.ops0 ?_
  refine At.thenN ?_
  refine At.cond (b := decide ((k : Int) < (ss.length : Int))) rfl (fun hc1 => ?_) (fun hc1 => ?_)
  · skip
    have hc1' := of_decide_eq_true hc1
    refine At.skip ?_
    refine At.thenN ?_
    refine At.seq ?_
    refine At.block ?_
    refine At.seq ?_
    refine At.region ?_
    refine At.move rfl rfl ?_
    refine At.move rfl rfl ?_
    obtain ⟨u1, hu1⟩ := some_of_lt (l := ss) (i := k) (by omega)
    refine At.indexAddr (i := k) rfl rfl (hv).ok (lt_of_some hu1) el27 sz9 rfl ?_
    refine At.load rfl (Ld.cell ag9 (cell_keep ((hv).get hu1) hB)) rfl ?_
    refine At.move rfl rfl ?_
    refine At.eqS rfl rfl rfl ?_
    refine At.ops0 ?_
    refine At.thenN ?_
    refine At.cond (b := decide (u1 = s)) rfl (fun hc2 => ?_) (fun hc2 => ?_)
    · skip
      have hc2' := of_decide_eq_true hc2
      refine At.seq ?_
      refine At.region ?_
      refine At.assign rfl rfl ?_
      refine At.ops0 ?_
      refine At.thenN ?_
      refine At.retc ?_
      refine At.inR ?_
      refine At.thenR ?_
      refine At.thenR ?_
      refine At.inR ?_
      refine At.thenR ?_
      refine At.doneR (ResV.tmp rfl ResV.nil) ?_
      exact ⟨congrArg Ending.returned (congrArg Value.bool (memB_iff.2 (by rw [← hc2']; exact List.mem_of_getElem? hu1)).symm), rfl⟩
    · skip
      have hc2' := of_decide_eq_false hc2
      refine At.skip ?_
      refine At.inN ?_
      refine At.thenN ?_
      refine At.region ?_
      refine At.move rfl rfl ?_
      refine At.addI rfl rfl rfl (by omega) ?_
      refine At.assign rfl rfl ?_
      refine At.ops0 ?_
      refine At.thenN ?_
      exact fun a ha => ⟨(k + 1), ha.sub (Sub.cons rfl (Sub.cons rfl (Sub.cons rfl Sub.nil))), ⟨rfl, (by omega), (next_no hn hu1 (by simpa using hc2'))⟩, by first | omega | (dsimp only; omega)⟩
  · skip
    have hc1' := of_decide_eq_false hc1
    refine At.exit ?_
    refine At.thenE ?_
    refine At.thenE ?_
    refine At.inE ?_
    refine At.thenN ?_
    refine At.seq ?_
    refine At.region ?_
    refine At.assign rfl rfl ?_
    refine At.ops0 ?_
    refine At.thenN ?_
    refine At.retc ?_
    refine At.doneR (ResV.tmp rfl ResV.nil) ?_
    exact ⟨congrArg Ending.returned (congrArg Value.bool (by have := find_no (by omega) hn; simp [memB]; simpa using this)), rfl⟩
end Go.Proofs.Ytkclfcdppnlkbaa
