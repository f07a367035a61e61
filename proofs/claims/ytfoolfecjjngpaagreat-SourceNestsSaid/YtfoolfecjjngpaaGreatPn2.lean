/-
  Part 2 of 6 of a proof: sourceNests_holds. No condition beyond those that stand in each statement.
-/
import Derived.Test.YtfoolfecjjngpaaGreatPn1
set_option linter.unusedVariables false
set_option linter.unusedSimpArgs false
namespace Go.Proofs.YtfoolfecjjngpaaGreat
open Go.RowKit
theorem ag141 : aggB Tryz.prog 141 = some true := by kernel_rfl
theorem ag3 : aggB Tryz.prog 3 = some false := by kernel_rfl
theorem ag9 : aggB Tryz.prog 9 = some false := by kernel_rfl
theorem ag92 : aggB Tryz.prog 92 = some false := by kernel_rfl
theorem el25 : elemB Tryz.prog 25 = some 9 := by kernel_rfl
theorem el32 : elemB Tryz.prog 32 = some 3 := by kernel_rfl
theorem el92 : elemB Tryz.prog 92 = some 141 := by kernel_rfl
theorem en103 : entB Tryz.prog 103 = true := by kernel_rfl
theorem en59 : entB Tryz.prog 59 = true := by kernel_rfl
theorem en76 : entB Tryz.prog 76 = true := by kernel_rfl
theorem en77 : entB Tryz.prog 77 = true := by kernel_rfl
theorem en84 : entB Tryz.prog 84 = true := by kernel_rfl
theorem en87 : entB Tryz.prog 87 = true := by kernel_rfl
theorem en96 : entB Tryz.prog 96 = true := by kernel_rfl
theorem en97 : entB Tryz.prog 97 = true := by kernel_rfl
theorem fo100_0 : fieldB Tryz.prog 100 0 = some (0, 1) := by kernel_rfl
theorem fo100_1 : fieldB Tryz.prog 100 1 = some (1, 1) := by kernel_rfl
theorem fo102_0 : fieldB Tryz.prog 102 0 = some (0, 2) := by kernel_rfl
theorem fo141_0 : fieldB Tryz.prog 141 0 = some (0, 1) := by kernel_rfl
theorem fo141_1 : fieldB Tryz.prog 141 1 = some (1, 1) := by kernel_rfl
theorem fo141_3 : fieldB Tryz.prog 141 3 = some (3, 1) := by kernel_rfl
theorem ft141_0 : fieldTB Tryz.prog 141 0 = some (0, 3) := by kernel_rfl
theorem sd141 : sizedB Tryz.prog 141 = true := by kernel_rfl
theorem sz141 : sizeB Tryz.prog 141 = some 4 := by kernel_rfl
theorem sz3 : sizeB Tryz.prog 3 = some 1 := by kernel_rfl
theorem sz9 : sizeB Tryz.prog 9 = some 1 := by kernel_rfl
theorem sz92 : sizeB Tryz.prog 92 = some 1 := by kernel_rfl
theorem ze141 : zeroB Tryz.prog 141 = some (.agg #[.int .i64 0, .string (⟨#[]⟩ : ByteArray), .int .i64 0, .int .i64 0]) := by kernel_rfl
theorem ze3 : zeroB Tryz.prog 3 = some (.int .i64 0) := by kernel_rfl
theorem ze9 : zeroB Tryz.prog 9 = some (.string (⟨#[]⟩ : ByteArray)) := by kernel_rfl
theorem index_any (v : Value) (ss : List ByteArray) (s : ByteArray) (w : World) (hv : StrsAt w v ss) (hl : ss.length ≤ 9223372036854775807) :
  Calls Tryz.prog 96 ([v, .string s] : List Value).toArray w fun e w' => e = .returned (.int .i64 (idxI (fun x : ByteArray => decide (x = s)) ss)) ∧ w = w' := by
 have hB := Below.refl w.heap.size w
 refine At.enter (N := 19) Tryz.func96 rfl rfl (by simp) [(0, v), (1, .string s)] (by simp) ?_
 refine .seq (.region (.assign rfl rfl (.ops0 (.thenN (.seq (.seq (.region (.move rfl rfl (.lenSl rfl (hv).ok el25 rfl (.move rfl rfl (.ops0 (.thenN (.block ?_)))))))))))))
 refine At.loop (Nat) (fun k => [(0, v), (1, .string s), (7, .int .i64 (ss.length : Int)), (8, .int .i64 (k : Int))]) (fun k w1 => w = w1 ∧ (k ≤ ss.length) ∧ (∀ i x, i < k → ss[i]? = some x → (fun x : ByteArray => decide (x = s)) x = false)) (fun k => ss.length - k) (0 : Nat) (sC rfl (sC rfl (sC rfl (sC rfl sN)))) ⟨rfl, (Nat.zero_le _), (fun j x hj => absurd hj (Nat.not_lt_zero j))⟩ (fun k w1 hI => ?_)
 obtain ⟨rfl, hk, hn⟩ := hI
 show At _ _ [(0, v), (1, .string s), (7, .int .i64 (ss.length : Int)), (8, .int .i64 (k : Int))] _ _
 refine .seq (.region (.lss rfl rfl rfl (.ops0 (.thenN (.seq ?_)))))
 refine At.cond (b := decide ((k : Int) < (ss.length : Int))) rfl (fun hc1 => ?_) (fun hc1 => ?_)
 ·skip
  have hc1' := of_decide_eq_true hc1
  refine .skip (.thenN (.seq (.block (.seq (.region (.move rfl rfl (.assign rfl rfl (.ops0 (.thenN (.seq (.region (.move rfl rfl (.move rfl rfl (.move rfl rfl ?_))))))))))))))
  obtain ⟨u1, hu1⟩ := some_of_lt (l := ss) (i := k) (by omega)
  refine .indexAddr (i := k) rfl rfl (hv).ok (lt_of_some hu1) el25 sz9 rfl (.load rfl (Ld.cell ag9 (cell_keep ((hv).get hu1) hB)) rfl (.eqS rfl rfl rfl (.ops0 (.thenN ?_))))
  refine At.cond (b := decide (s = u1)) rfl (fun hc2 => ?_) (fun hc2 => ?_)
  ·skip
   have hc2' := of_decide_eq_true hc2
   refine .seq (.region (.move rfl rfl (.assign rfl rfl (.ops0 (.thenN (.retc (.inR (.thenR (.thenR (.inR (.thenR (.doneR (ResV.tmp rfl ResV.nil) ?_))))))))))))
   exact ⟨congrArg Ending.returned (congrArg (Value.int .i64) (idxI_yes hu1 (by simpa using hc2'.symm) hn).symm), rfl⟩
  have hc2' := of_decide_eq_false hc2
  refine .skip (.inN (.thenN (.region (.addI rfl rfl rfl (by omega) (.move rfl rfl (.ops0 (.thenN ?_)))))))
  exact fun act_ hact_ => ⟨(k + 1), hact_.sub (sC rfl (sC rfl (sC rfl (sC rfl sN)))), ⟨rfl, (by omega), (next_no hn hu1 (by simpa using fun e : u1 = s => hc2' e.symm))⟩, by first | omega | (dsimp only; omega)⟩
 have hc1' := of_decide_eq_false hc1
 refine .exit (.thenE (.thenE (.inE (.thenN (.seq (.region (.assign rfl rfl (.ops0 (.thenN (.retc (.doneR (ResV.tmp rfl ResV.nil) ?_)))))))))))
 exact ⟨congrArg Ending.returned (congrArg (Value.int .i64) (idxI_no (by omega) hn).symm), rfl⟩
theorem contains_any (v : Value) (ss : List ByteArray) (s : ByteArray) (w : World) (hv : StrsAt w v ss) (hl : ss.length ≤ 9223372036854775807) :
  Calls Tryz.prog 77 ([v, .string s] : List Value).toArray w fun e w' => e = .returned (.bool (memB s ss)) ∧ w = w' := by
 have hB := Below.refl w.heap.size w
 refine At.enter (N := 9) Tryz.func77 rfl rfl (by simp) [(0, v), (1, .string s)] (by simp) ?_
 refine .seq (.region (.assign rfl rfl (.ops0 (.thenN (.seq (.region (.move rfl rfl (.move rfl rfl ?_))))))))
 refine At.call en96 rfl rfl (index_any v ss s _ ((hv).keep hB) (by omega)) (fun e w' hR => ?_)
 obtain ⟨rfl, rfl⟩ := hR
 refine ⟨_, rfl, ?_⟩
 refine .geq rfl rfl rfl (.assign rfl rfl (.ops0 (.thenN (.retc (.doneR (ResV.tmp rfl ResV.nil) ?_)))))
 exact ⟨congrArg Ending.returned (congrArg Value.bool (idxI_geq _ _)), rfl⟩
theorem indexI_any (v : Value) (ns : List Int) (n : Int) (w : World) (hv : IntsAt w v ns) (hl : ns.length ≤ 9223372036854775807) :
  Calls Tryz.prog 103 ([v, .int .i64 n] : List Value).toArray w fun e w' => e = .returned (.int .i64 (idxI (fun x : Int => decide (x = n)) ns)) ∧ w = w' := by
 have hB := Below.refl w.heap.size w
 refine At.enter (N := 19) Tryz.func103 rfl rfl (by simp) [(0, v), (1, .int .i64 n)] (by simp) ?_
 refine .seq (.region (.assign rfl rfl (.ops0 (.thenN (.seq (.seq (.region (.move rfl rfl (.lenSl rfl hv.ok el32 rfl (.move rfl rfl (.ops0 (.thenN (.block ?_)))))))))))))
 refine At.loop (Nat) (fun k => [(0, v), (1, .int .i64 n), (7, .int .i64 (ns.length : Int)), (8, .int .i64 (k : Int))]) (fun k w1 => w = w1 ∧ (k ≤ ns.length) ∧ (∀ i x, i < k → ns[i]? = some x → (fun x : Int => decide (x = n)) x = false)) (fun k => ns.length - k) (0 : Nat) (sC rfl (sC rfl (sC rfl (sC rfl sN)))) ⟨rfl, (Nat.zero_le _), (fun j x hj => absurd hj (Nat.not_lt_zero j))⟩ (fun k w1 hI => ?_)
 obtain ⟨rfl, hk, hn⟩ := hI
 show At _ _ [(0, v), (1, .int .i64 n), (7, .int .i64 (ns.length : Int)), (8, .int .i64 (k : Int))] _ _
 refine .seq (.region (.lss rfl rfl rfl (.ops0 (.thenN (.seq ?_)))))
 refine At.cond (b := decide ((k : Int) < (ns.length : Int))) rfl (fun hc1 => ?_) (fun hc1 => ?_)
 ·skip
  have hc1' := of_decide_eq_true hc1
  refine .skip (.thenN (.seq (.block (.seq (.region (.move rfl rfl (.assign rfl rfl (.ops0 (.thenN (.seq (.region (.move rfl rfl (.move rfl rfl (.move rfl rfl ?_))))))))))))))
  obtain ⟨u1, hu1⟩ := some_of_lt (l := ns) (i := k) (by omega)
  refine .indexAddr (i := k) rfl rfl hv.ok (lt_of_some hu1) el32 sz3 rfl (.load rfl (Ld.cell ag3 (cell_keep ((hv).get hu1) hB)) rfl (.eqI rfl rfl rfl (.ops0 (.thenN ?_))))
  refine At.cond (b := decide (n = u1)) rfl (fun hc2 => ?_) (fun hc2 => ?_)
  ·skip
   have hc2' := of_decide_eq_true hc2
   refine .seq (.region (.move rfl rfl (.assign rfl rfl (.ops0 (.thenN (.retc (.inR (.thenR (.thenR (.inR (.thenR (.doneR (ResV.tmp rfl ResV.nil) ?_))))))))))))
   exact ⟨congrArg Ending.returned (congrArg (Value.int .i64) (idxI_yes hu1 (by simpa using hc2'.symm) hn).symm), rfl⟩
  have hc2' := of_decide_eq_false hc2
  refine .skip (.inN (.thenN (.region (.addI rfl rfl rfl (by omega) (.move rfl rfl (.ops0 (.thenN ?_)))))))
  exact fun act_ hact_ => ⟨(k + 1), hact_.sub (sC rfl (sC rfl (sC rfl (sC rfl sN)))), ⟨rfl, (by omega), (next_no hn hu1 (by simpa using fun e : u1 = n => hc2' e.symm))⟩, by first | omega | (dsimp only; omega)⟩
 have hc1' := of_decide_eq_false hc1
 refine .exit (.thenE (.thenE (.inE (.thenN (.seq (.region (.assign rfl rfl (.ops0 (.thenN (.retc (.doneR (ResV.tmp rfl ResV.nil) ?_)))))))))))
 exact ⟨congrArg Ending.returned (congrArg (Value.int .i64) (idxI_no (by omega) hn).symm), rfl⟩
theorem containsI_any (v : Value) (ns : List Int) (n : Int) (w : World) (hv : IntsAt w v ns) (hl : ns.length ≤ 9223372036854775807) :
  Calls Tryz.prog 97 ([v, .int .i64 n] : List Value).toArray w fun e w' => e = .returned (.bool (ns.any fun x => decide (x = n))) ∧ w = w' := by
 have hB := Below.refl w.heap.size w
 refine At.enter (N := 9) Tryz.func97 rfl rfl (by simp) [(0, v), (1, .int .i64 n)] (by simp) ?_
 refine .seq (.region (.assign rfl rfl (.ops0 (.thenN (.seq (.region (.move rfl rfl (.move rfl rfl ?_))))))))
 refine At.call en103 rfl rfl (indexI_any v ns n _ ((hv).keep hB) (by omega)) (fun e w' hR => ?_)
 obtain ⟨rfl, rfl⟩ := hR
 refine ⟨_, rfl, ?_⟩
 refine .geq rfl rfl rfl (.assign rfl rfl (.ops0 (.thenN (.retc (.doneR (ResV.tmp rfl ResV.nil) ?_)))))
 exact ⟨congrArg Ending.returned (congrArg Value.bool (idxI_geq _ _)), rfl⟩
theorem next_any {b0 : Nat} {en dp : Int} (ts : List Tk) (v : Value) (w : World) (hts : RowsAt w v 4 (ts.map Tk.cs)) (hb0 : w.heap[b0]? = some (.cells #[v, .int .i64 en, .int .i64 dp] 102)) :
  Calls Tryz.prog 76 ([.pointer (some ⟨b0, 0, none⟩)] : List Value).toArray w fun e w' => e = .returned (.agg (nx en ts).cs) ∧ Below w.heap.size w w' := by
 have hB := Below.refl w.heap.size w
 refine At.enter (N := 20) Tryz.func76 rfl rfl (by simp) [(0, .pointer (some ⟨b0, 0, none⟩))] (by simp) ?_
 refine .seq (.region ?_)
 refine At.alloc ze141 rfl (fun b1 w1 F1 => ?_)
 have gb1 := F1.ge hB
 replace hb0 := F1.old hb0
 have hb1 : w1.heap[b1]? = some (.cells #[zI, zS, zI, zI] 141) := F1.new
 replace hB := F1.below' hB
 refine .ops0 (.thenN (.seq (.seq (.region (.move rfl rfl (.nilCheck rfl rfl (.fieldAddr rfl fo100_0 rfl (.load rfl (Ld.ownCell ag92 hb0 rfl) rfl (.lenSl rfl (hts).okL el92 rfl (.eqI rfl rfl rfl (.ops0 (.thenN ?_))))))))))))
 refine At.cond (b := decide ((ts.length : Int) = 0)) rfl (fun hc1 => ?_) (fun hc1 => ?_)
 ·skip
  have hc1' := of_decide_eq_true hc1
  refine .seq (.region (.move rfl rfl (.nilCheck rfl rfl (.fieldAddr rfl fo100_1 rfl (.load rfl (Ld.ownCell ag3 hb0 rfl) rfl (.build (C := #[zI, zS, zI, .int .i64 en]) sd141 ze141 rfl (Bld.cons fo141_3 rfl (lB rfl) (Bld.nil _)) rfl ?_))))))
  refine At.storeAll rfl rfl hb1 sz141 rfl (by first | (simp [Value.oneCell']; done) | (simp only [List.all_toArray, List.all_cons, List.all_nil, Bool.and_true, Bool.true_and] <;> rfl)) (fun w2 S1 => ?_)
  replace hb1 : w2.heap[b1]? = some (.cells #[zI, zS, zI, .int .i64 en] 141) := S1.new
  replace hB := S1.below' hB gb1
  refine .ops0 (.thenN (.retc (.thenR (.doneR (ResV.cell rfl (Ld.own (C := #[zI, zS, zI, .int .i64 en]) ag141 sz141 hb1) ResV.nil) ?_))))
  exact ⟨congrArg (fun t : Tk => Ending.returned (.agg t.cs)) (nx_nil hc1').symm, hB⟩
 have hc1' := of_decide_eq_false hc1
 refine .skip (.thenN (.seq (.region (.move rfl rfl (.nilCheck rfl rfl (.fieldAddr rfl fo100_0 rfl (.load rfl (Ld.ownCell ag92 hb0 rfl) rfl ?_)))))))
 obtain ⟨u1, hu1⟩ := some_of_lt (l := ts) (i := 0) (by omega)
 refine .indexAddr (i := 0) rfl rfl (hts).okL (lt_of_some hu1) el92 sz141 rfl (.load rfl (Ld.row ag141 (sz141.trans (congrArg some ((tk_ok u1)).size.symm)) (((hts).row hu1).keep hB)) rfl ?_)
 refine At.storeAll rfl rfl hb1 (sz141.trans (congrArg some ((tk_ok u1)).size.symm)) ((tk_ok u1)).size.symm ((tk_ok u1)).one (fun w3 S2 => ?_)
 replace hb1 : w3.heap[b1]? = some (.cells u1.cs 141) := S2.new
 replace hB := S2.below' hB gb1
 refine .ops0 (.thenN (.retc (.doneR (ResV.cell rfl (Ld.own ag141 (sz141.trans (congrArg some ((tk_ok u1)).size.symm)) hb1) ResV.nil) ?_)))
 exact ⟨congrArg (fun t : Tk => Ending.returned (.agg t.cs)) (nx_at hu1).symm, hB⟩
theorem is_any {b0 : Nat} {en dp : Int} (ts : List Tk) (v : Value) (vs : Value) (ss : List ByteArray) (w : World) (hts : RowsAt w v 4 (ts.map Tk.cs)) (hb0 : w.heap[b0]? = some (.cells #[v, .int .i64 en, .int .i64 dp] 102)) (hss : StrsAt w vs ss) :
  Calls Tryz.prog 59 ([.pointer (some ⟨b0, 0, none⟩), vs] : List Value).toArray w fun e w' => e = .returned (.bool (isK en ts ss)) ∧ Below w.heap.size w w' := by
 have hsl := hss.len
 have hB := Below.refl w.heap.size w
 refine At.enter (N := 22) Tryz.func59 rfl rfl (by simp) [(0, .pointer (some ⟨b0, 0, none⟩)), (1, vs)] (by simp) ?_
 refine .seq (.region (.assign rfl rfl (.ops0 (.thenN (.seq (.region (.move rfl rfl ?_)))))))
 refine At.call en76 rfl rfl (next_any ts v _ ((hts).keep hB) hb0) (fun e w1 hR' => ?_)
 obtain ⟨rfl, hbl1⟩ := hR'
 refine ⟨_, rfl, ?_⟩
 replace hB := Below.andThen hB hbl1
 refine At.alloc ze141 rfl (fun b1 w2 F1 => ?_)
 have gb1 := F1.ge hB
 have hb1 : w2.heap[b1]? = some (.cells #[zI, zS, zI, zI] 141) := F1.new
 replace hB := F1.below' hB
 refine At.storeAll rfl rfl hb1 (sz141.trans (congrArg some ((tk_ok (nx en ts))).size.symm)) ((tk_ok (nx en ts))).size.symm ((tk_ok (nx en ts))).one (fun w3 S1 => ?_)
 replace hb1 : w3.heap[b1]? = some (.cells (nx en ts).cs 141) := S1.new
 replace hB := S1.below' hB gb1
 refine .ops0 (.thenN (.seq (.region ?_)))
 refine At.join [(4, .bool ((decide ((nx en ts).k = 4) || decide ((nx en ts).k = 5)) && (memB (bs ((nx en ts).t)) ss)))] (fun w' => w3 = w') ?_ (fun w4 hS => ?_)
 ·skip
  refine .fieldAddr rfl fo141_0 rfl (.load rfl (Ld.ownCell ag3 hb1 ((tk_ok (nx en ts))).c0) rfl (.eqI rfl rfl rfl (.move rfl rfl ?_)))
  refine At.cases (decide ((nx en ts).k = 4)) (fun hg1 => ?_) (fun hg1 => ?_)
  ·skip
   refine .set (d := 11) (u := .bool true) rfl (congrArg Value.bool hg1) ?_
   have hg1' := of_decide_eq_true hg1
   refine .no rfl rfl rfl rfl rfl rfl rfl (.no rfl rfl rfl rfl rfl rfl rfl (.no rfl rfl rfl rfl rfl rfl rfl (.pickT rfl rfl rfl (.move rfl rfl (.yes rfl rfl rfl rfl (.move rfl rfl (.yes rfl rfl rfl rfl (.fieldAddr rfl fo141_1 rfl (.yes rfl rfl rfl rfl (.load rfl (Ld.ownCell ag9 hb1 ((tk_ok (nx en ts))).c1) rfl (.yes rfl rfl rfl rfl ?_)))))))))))
   refine At.call en77 rfl rfl (contains_any vs ss (bs ((nx en ts).t)) _ ((hss).keep hB) (by omega)) (fun e w' hR => ?_)
   obtain ⟨rfl, rfl⟩ := hR
   refine ⟨_, rfl, ?_⟩
   refine .pickT rfl rfl rfl (.assign rfl rfl ?_)
   exact At.joined (Sub.cons (by show some (Value.bool (memB (bs ((nx en ts).t)) ss)) = some (Value.bool ((decide ((nx en ts).k = 4) || decide ((nx en ts).k = 5)) && (memB (bs ((nx en ts).t)) ss))); rw [hg1]; rfl) sN) rfl
  refine .set (d := 11) (u := .bool false) rfl (congrArg Value.bool hg1) ?_
  have hg1' := of_decide_eq_false hg1
  refine .yes rfl rfl rfl rfl (.fieldAddr rfl fo141_0 rfl (.yes rfl rfl rfl rfl (.load rfl (Ld.ownCell ag3 hb1 ((tk_ok (nx en ts))).c0) rfl (.yes rfl rfl rfl rfl (.eqI rfl rfl rfl (.pickF rfl rfl rfl (.move rfl rfl ?_)))))))
  refine At.cases (decide ((nx en ts).k = 5)) (fun hg2 => ?_) (fun hg2 => ?_)
  ·skip
   refine .set (d := 16) (u := .bool true) rfl (congrArg Value.bool hg2) ?_
   have hg2' := of_decide_eq_true hg2
   refine .yes rfl rfl rfl rfl (.move rfl rfl (.yes rfl rfl rfl rfl (.fieldAddr rfl fo141_1 rfl (.yes rfl rfl rfl rfl (.load rfl (Ld.ownCell ag9 hb1 ((tk_ok (nx en ts))).c1) rfl (.yes rfl rfl rfl rfl ?_))))))
   refine At.call en77 rfl rfl (contains_any vs ss (bs ((nx en ts).t)) _ ((hss).keep hB) (by omega)) (fun e w' hR => ?_)
   obtain ⟨rfl, rfl⟩ := hR
   refine ⟨_, rfl, ?_⟩
   refine .pickT rfl rfl rfl (.assign rfl rfl ?_)
   exact At.joined (Sub.cons (by show some (Value.bool (memB (bs ((nx en ts).t)) ss)) = some (Value.bool ((decide ((nx en ts).k = 4) || decide ((nx en ts).k = 5)) && (memB (bs ((nx en ts).t)) ss))); rw [hg1, hg2]; rfl) sN) rfl
  refine .set (d := 16) (u := .bool false) rfl (congrArg Value.bool hg2) ?_
  have hg2' := of_decide_eq_false hg2
  refine .no rfl rfl rfl rfl rfl rfl rfl (.no rfl rfl rfl rfl rfl rfl rfl (.no rfl rfl rfl rfl rfl rfl rfl (.no rfl rfl rfl rfl rfl rfl rfl (.pickF rfl rfl rfl (.assign rfl rfl ?_)))))
  exact At.joined (Sub.cons (by show some (Value.bool false) = some (Value.bool ((decide ((nx en ts).k = 4) || decide ((nx en ts).k = 5)) && (memB (bs ((nx en ts).t)) ss))); rw [hg1, hg2]; rfl) sN) rfl
 subst hS
 refine .thenN (.retc (.doneR (ResV.tmp rfl ResV.nil) ?_))
 exact ⟨rfl, hB⟩
theorem kind_any {b0 : Nat} {en dp : Int} (ts : List Tk) (v : Value) (vk : Value) (ks : List Int) (w : World) (hts : RowsAt w v 4 (ts.map Tk.cs)) (hb0 : w.heap[b0]? = some (.cells #[v, .int .i64 en, .int .i64 dp] 102)) (hks : IntsAt w vk ks) :
  Calls Tryz.prog 84 ([.pointer (some ⟨b0, 0, none⟩), vk] : List Value).toArray w fun e w' => e = .returned (.bool (kdK en ts ks)) ∧ Below w.heap.size w w' := by
 have hsl := hks.len
 have hB := Below.refl w.heap.size w
 refine At.enter (N := 10) Tryz.func84 rfl rfl (by simp) [(0, .pointer (some ⟨b0, 0, none⟩)), (1, vk)] (by simp) ?_
 refine .seq (.region (.assign rfl rfl (.ops0 (.thenN (.seq (.region (.move rfl rfl (.move rfl rfl ?_))))))))
 refine At.call en76 rfl rfl (next_any ts v _ ((hts).keep hB) hb0) (fun e w1 hR' => ?_)
 obtain ⟨rfl, hbl1⟩ := hR'
 refine ⟨_, rfl, ?_⟩
 replace hB := Below.andThen hB hbl1
 refine .fieldC rfl ft141_0 ag3 (((tk_ok (nx en ts))).c0) rfl ?_
 refine At.call en97 rfl rfl (containsI_any vk ks ((nx en ts).k) _ ((hks).keep hB) (by omega)) (fun e w' hR => ?_)
 obtain ⟨rfl, rfl⟩ := hR
 refine ⟨_, rfl, ?_⟩
 refine .assign rfl rfl (.ops0 (.thenN (.retc (.doneR (ResV.tmp rfl ResV.nil) ?_))))
 exact ⟨rfl, hB⟩
theorem ptake_any {wB : World} {b0 : Nat} {en dp : Int} (ts : List Tk) (v : Value) (w : World) (hB0 : Below wB.heap.size wB w) (hSge : ∀ k, k = b0 → wB.heap.size ≤ k) (hts : RowsAt wB v 4 (ts.map Tk.cs)) (hb0 : w.heap[b0]? = some (.cells #[v, .int .i64 en, .int .i64 dp] 102)) (hl : 0 < ts.length) :
  Calls Tryz.prog 87 ([.pointer (some ⟨b0, 0, none⟩)] : List Value).toArray w fun e w' => ∃ v', e = .returned (.agg (nx en ts).cs) ∧ RowsAt wB v' 4 (ts.tail.map Tk.cs) ∧ w'.heap[b0]? = some (.cells #[v', .int .i64 en, .int .i64 dp] 102) ∧ Fr (fun k => k = b0) w w' := by
 have hR := Fr.refl (fun k => k = b0) w
 refine At.enter (N := 15) Tryz.func87 rfl rfl (by simp) [(0, .pointer (some ⟨b0, 0, none⟩))] (by simp) ?_
 refine .seq (.region ?_)
 refine At.alloc ze141 rfl (fun b1 w1 F1 => ?_)
 have n_b0_b1 := F1.ne' hb0
 have gb1 := F1.gq hR.size
 replace hb0 := F1.old hb0
 have hb1 : w1.heap[b1]? = some (.cells #[zI, zS, zI, zI] 141) := F1.new
 replace hR := hR.freshF F1
 replace hB := Fr.below hR hB0 hB0.size hSge
 refine .ops0 (.thenN (.seq (.region (.move rfl rfl ?_))))
 refine At.call en76 rfl rfl (next_any ts v _ ((hts).keep hB) hb0) (fun e w2 hR' => ?_)
 obtain ⟨rfl, hbl1⟩ := hR'
 refine ⟨_, rfl, ?_⟩
 replace hb0 := Below.old hbl1 hb0
 replace hb1 := Below.old hbl1 hb1
 replace hR := hR.callF hbl1
 refine At.alloc ze141 rfl (fun b2 w3 F2 => ?_)
 have n_b0_b2 := F2.ne' hb0
 have n_b1_b2 := F2.ne' hb1
 have gb2 := F2.gq hR.size
 replace hb0 := F2.old hb0
 replace hb1 := F2.old hb1
 have hb2 : w3.heap[b2]? = some (.cells #[zI, zS, zI, zI] 141) := F2.new
 replace hR := hR.freshF F2
 refine At.storeAll rfl rfl hb2 (sz141.trans (congrArg some ((tk_ok (nx en ts))).size.symm)) ((tk_ok (nx en ts))).size.symm ((tk_ok (nx en ts))).one (fun w4 S1 => ?_)
 replace hb0 := S1.other hb0 n_b0_b2
 replace hb1 := S1.other hb1 n_b1_b2
 replace hb2 : w4.heap[b2]? = some (.cells (nx en ts).cs 141) := S1.new
 replace hR := hR.setF S1 (.inr gb2)
 refine .ops0 (.thenN (.seq (.region (.move rfl rfl (.move rfl rfl (.nilCheck rfl rfl (.fieldAddr rfl fo100_0 rfl (.load rfl (Ld.ownCell ag92 hb0 rfl) rfl (.sliceFrom (h := 1) rfl rfl (hts.okL) el92 sz141 (by omega) rfl (.nilCheck rfl rfl (.fieldAddr rfl fo100_0 rfl ?_)))))))))))
 refine At.store1 rfl rfl hb0 sz92 (by simp) (tail_rows hts hl).ok.one (fun w5 S2 => ?_)
 replace hb1 := S2.other hb1 n_b0_b1.symm
 replace hb2 := S2.other hb2 n_b0_b2.symm
 replace hb0 : w5.heap[b0]? = some (.cells #[(dropV 4 v 1), .int .i64 en, .int .i64 dp] 102) := S2.new
 replace hR := hR.setF S2 (.inl rfl)
 refine .ops0 (.thenN (.seq (.region (.load rfl (Ld.own ag141 (sz141.trans (congrArg some ((tk_ok (nx en ts))).size.symm)) hb2) rfl ?_))))
 refine At.storeAll rfl rfl hb1 (sz141.trans (congrArg some ((tk_ok (nx en ts))).size.symm)) ((tk_ok (nx en ts))).size.symm ((tk_ok (nx en ts))).one (fun w6 S3 => ?_)
 replace hb0 := S3.other hb0 n_b0_b1
 replace hb1 : w6.heap[b1]? = some (.cells (nx en ts).cs 141) := S3.new
 replace hR := hR.setF S3 (.inr gb1)
 refine .ops0 (.thenN (.retc (.doneR (ResV.cell rfl (Ld.own ag141 (sz141.trans (congrArg some ((tk_ok (nx en ts))).size.symm)) hb1) ResV.nil) ?_)))
 exact ⟨_, rfl, tail_rows hts hl, hb0, hR⟩
theorem word_any {wB : World} {b0 : Nat} {en dp : Int} (ts : List Tk) (v : Value) (k : Int) (w : World) (hB0 : Below wB.heap.size wB w) (hSge : ∀ k, k = b0 → wB.heap.size ≤ k) (hts : RowsAt wB v 4 (ts.map Tk.cs)) (hb0 : w.heap[b0]? = some (.cells #[v, .int .i64 en, .int .i64 dp] 102)) (hk0 : k ≠ 0) (hg : (wordP en k ts).isOk = true) :
  Calls Tryz.prog 79 ([.pointer (some ⟨b0, 0, none⟩), .int .i64 k] : List Value).toArray w fun e w' => RetP (fun k => k = b0) wB b0 en dp okTk (wordP en k ts) w e w' := by
 have hR := Fr.refl (fun k => k = b0) w
 refine At.enter (N := 18) Tryz.func79 rfl rfl (by simp) [(0, .pointer (some ⟨b0, 0, none⟩)), (1, .int .i64 k)] (by simp) ?_
 refine .seq (.region ?_)
 refine At.alloc ze141 rfl (fun b1 w1 F1 => ?_)
 have n_b0_b1 := F1.ne' hb0
 have gb1 := F1.gq hR.size
 replace hb0 := F1.old hb0
 have hb1 : w1.heap[b1]? = some (.cells #[zI, zS, zI, zI] 141) := F1.new
 replace hR := hR.freshF F1
 refine .ops0 (.thenN (.seq (.seq (.region (.move rfl rfl (.nilCheck rfl rfl (.fieldAddr rfl fo102_0 rfl (.move rfl rfl ?_))))))))
 refine At.buildSlice (xs := [.tmp 8]) rfl rfl el32 sz3 ze3 (by intro v hv; simp only [List.mem_cons, List.not_mem_nil, or_false] at hv; rcases hv with rfl <;> first | rfl | simp [Value.cells]) rfl (by decide) rfl (fun b2 w2 F2 => ?_)
 replace hb0 := F2.old hb0
 replace hb1 := F2.old hb1
 have hb2 : w2.heap[b2]? = some (.cells #[.int .i64 k] 3) := F2.new
 replace hR := hR.freshF F2
 replace hB := Fr.below hR hB0 hB0.size hSge
 refine At.call en84 rfl rfl (kind_any ts v (.slice (some ⟨b2, 0, none⟩) 1 1) ([k]) _ ((hts).keep hB) hb0 ((IntsAt.own (l := [k]) hb2 rfl (by decide) : IntsAt _ (.slice (some ⟨b2, 0, none⟩) 1 1) [k]))) (fun e w3 hR' => ?_)
 obtain ⟨rfl, hbl1⟩ := hR'
 refine ⟨_, rfl, ?_⟩
 replace hb0 := Below.old hbl1 hb0
 replace hb1 := Below.old hbl1 hb1
 replace hR := hR.callF hbl1
 replace hB := Fr.below hR hB0 hB0.size hSge
 refine .not rfl rfl (.ops0 (.thenN ?_))
 refine At.cond (b := (!(kdK en ts ([k])))) rfl (fun hc1 => ?_) (fun hc1 => ?_)
 ·skip
  have hc1n := bnot_t hc1
  refine .region (.move rfl rfl ?_)
  exact (PR.no hg (by simp only [wordP, failP, SB, hc1n] <;> rfl)).elim
 have hc1n := bnot_f hc1
 refine .skip (.thenN (.seq (.region (.move rfl rfl (.nilCheck rfl rfl (.fieldAddr rfl fo102_0 rfl ?_))))))
 refine At.call en87 rfl rfl (ptake_any ts v _ hB hSge hts hb0 (kd_len hc1n (by simp [hk0]))) (fun e wp1 hR' => ?_)
 obtain ⟨vr1, rfl, hts1, hbo1, hF1⟩ := hR'
 refine ⟨_, rfl, ?_⟩
 replace hb1 := Fr.oldB hF1 hb1 (n_b0_b1.symm)
 replace hb0 := hbo1
 replace hR := Fr.then hR hF1 (fun k hk => .inl hk)
 refine At.storeAll rfl rfl hb1 (sz141.trans (congrArg some ((tk_ok (nx en ts))).size.symm)) ((tk_ok (nx en ts))).size.symm ((tk_ok (nx en ts))).one (fun w4 S1 => ?_)
 replace hb0 := S1.other hb0 n_b0_b1
 replace hb1 : w4.heap[b1]? = some (.cells (nx en ts).cs 141) := S1.new
 replace hR := hR.setF S1 (.inr gb1)
 refine .ops0 (.thenN (.retc (.doneR (ResV.cell rfl (Ld.own ag141 (sz141.trans (congrArg some ((tk_ok (nx en ts))).size.symm)) hb1) ResV.nil) ?_)))
 exact RetP.ok (by simp only [wordP, failP, SB, hc1n] <;> rfl) hR hts1 hb0 rfl
theorem ptext_any {wB : World} {b0 : Nat} {en dp : Int} (ts : List Tk) (v : Value) (vs : Value) (ss : List ByteArray) (w : World) (hB0 : Below wB.heap.size wB w) (hSge : ∀ k, k = b0 → wB.heap.size ≤ k) (hts : RowsAt wB v 4 (ts.map Tk.cs)) (hb0 : w.heap[b0]? = some (.cells #[v, .int .i64 en, .int .i64 dp] 102)) (hss : StrsAt w vs ss) (hne : ss ≠ [] → vBlock vs ≠ b0) (hg : (textP en ss ts).isOk = true) :
  Calls Tryz.prog 78 ([.pointer (some ⟨b0, 0, none⟩), vs] : List Value).toArray w fun e w' => RetP (fun k => k = b0) wB b0 en dp okU (textP en ss ts) w e w' := by
 have hsl := hss.len
 have hR := Fr.refl (fun k => k = b0) w
 have hB := hB0
 refine At.enter (N := 26) Tryz.func78 rfl rfl (by simp) [(0, .pointer (some ⟨b0, 0, none⟩)), (1, vs)] (by simp) ?_
 refine .seq (.region (.move rfl rfl (.lenSl rfl (hss).ok el25 rfl (.move rfl rfl (.ops0 (.thenN (.block ?_)))))))
 refine At.loop (Nat × List Tk × Value) (fun (k, us, vr) => [(0, .pointer (some ⟨b0, 0, none⟩)), (6, vs), (7, .int .i64 (ss.length : Int)), (8, .int .i64 (k : Int))]) (fun (k, us, vr) w1 => Fr (fun k => k = b0) w w1 ∧ w1.heap[b0]? = some (.cells #[vr, .int .i64 en, .int .i64 dp] 102) ∧ StrsAt w1 vs ss ∧ (k ≤ ss.length) ∧ (RowsAt wB vr 4 (us.map Tk.cs)) ∧ (textP en ss ts = textP en (ss.drop k) us)) (fun (k, us, vr) => ss.length - k) (0, ts, v) (sC rfl (sC rfl (sC rfl (sC rfl sN)))) ⟨hR, hb0, hss, (Nat.zero_le _), (hts), (rfl)⟩ (fun gh w1 hI => ?_)
 obtain ⟨k, us, vr⟩ := gh
 clear hR hB hb0 hss
 obtain ⟨hR, hb0, hss, hkb, hus, hs⟩ := hI
 show At _ _ [(0, .pointer (some ⟨b0, 0, none⟩)), (6, vs), (7, .int .i64 (ss.length : Int)), (8, .int .i64 (k : Int))] _ _
 refine .seq (.region (.lss rfl rfl rfl (.ops0 (.thenN (.seq ?_)))))
 refine At.cond (b := decide ((k : Int) < (ss.length : Int))) rfl (fun hc1 => ?_) (fun hc1 => ?_)
 ·skip
  have hc1' := of_decide_eq_true hc1
  refine .skip (.thenN (.seq (.block (.seq (.region ?_)))))
  obtain ⟨u1, hu1⟩ := some_of_lt (l := ss) (i := k) (by omega)
  refine .indexAddr (i := k) rfl rfl (hss).ok (lt_of_some hu1) el25 sz9 rfl (.load rfl (Ld.cell ag9 (cell_keep ((hss).get hu1) (Below.refl _ _))) rfl (.assign rfl rfl (.ops0 (.thenN (.seq (.seq (.region (.move rfl rfl (.nilCheck rfl rfl (.fieldAddr rfl fo102_0 rfl (.move rfl rfl ?_)))))))))))
  refine At.buildSlice (xs := [.tmp 15]) rfl rfl el25 sz9 ze9 (by intro v hv; simp only [List.mem_cons, List.not_mem_nil, or_false] at hv; rcases hv with rfl <;> first | rfl | simp [Value.cells]) rfl (by decide) rfl (fun b1 w2 F1 => ?_)
  replace hb0 := F1.old hb0
  replace hss := hss.fresh F1
  have hb1 : w2.heap[b1]? = some (.cells #[.string u1] 9) := F1.new
  replace hR := hR.freshF F1
  replace hB := Fr.below hR hB0 hB0.size hSge
  refine At.call en59 rfl rfl (is_any us vr (.slice (some ⟨b1, 0, none⟩) 1 1) ([u1]) _ ((hus).keep hB) hb0 ((StrsAt.own (ss := [u1]) hb1 rfl (by decide) : StrsAt _ (.slice (some ⟨b1, 0, none⟩) 1 1) [u1]))) (fun e w3 hR' => ?_)
  obtain ⟨rfl, hbl1⟩ := hR'
  refine ⟨_, rfl, ?_⟩
  replace hb0 := Below.old hbl1 hb0
  replace hss := hss.below hbl1
  replace hR := hR.callF hbl1
  replace hB := Fr.below hR hB0 hB0.size hSge
  refine .not rfl rfl (.ops0 (.thenN ?_))
  refine At.cond (b := (!(isK en us ([u1])))) rfl (fun hc2 => ?_) (fun hc2 => ?_)
  ·skip
   have hc2n := bnot_t hc2
   refine .region (.move rfl rfl ?_)
   exact (PR.no hg (by rw [hs, drop_cons hu1, textP]; simp only [failP, SB, hc1, hc2n] <;> rfl)).elim
  have hc2n := bnot_f hc2
  refine .skip (.thenN (.region (.move rfl rfl (.nilCheck rfl rfl (.fieldAddr rfl fo102_0 rfl ?_)))))
  refine At.call en87 rfl rfl (ptake_any us vr _ hB hSge hus hb0 (is_len hc2n)) (fun e wp1 hR' => ?_)
  obtain ⟨vr1, rfl, hts1, hbo1, hF1⟩ := hR'
  refine ⟨_, rfl, ?_⟩
  replace hss := StrsAt.frB hss hF1 hne
  replace hb0 := hbo1
  replace hR := Fr.then hR hF1 (fun k hk => .inl hk)
  refine .ops0 (.inN (.thenN (.region (.addI rfl rfl rfl (by omega) (.move rfl rfl (.ops0 (.thenN ?_)))))))
  exact fun act_ hact_ => ⟨((k + 1), us.tail, vr1), hact_.sub (sC rfl (sC rfl (sC rfl (sC rfl sN)))), ⟨hR, hb0, hss, (by omega), (hts1), (by rw [hs, drop_cons hu1, textP]; simp only [hc1, hc2n, cond_true])⟩, by first | omega | (dsimp only; omega)⟩
 have hc1' := of_decide_eq_false hc1
 refine .exit (.thenE (.thenE (.inE (.doneN (ResV.nil) ?_))))
 exact RetP.ok (by rw [hs, List.drop_eq_nil_of_le (by omega), textP]) hR hus hb0 rfl
theorem by9 : bytesB Tryz.prog 9 = some 16 := by kernel_rfl
theorem en79 : entB Tryz.prog 79 = true := by kernel_rfl
theorem ft141_1 : fieldTB Tryz.prog 141 1 = some (1, 9) := by kernel_rfl
theorem names_any {wB : World} {b0 : Nat} {en dp : Int} (ts : List Tk) (v : Value) (n : Nat) (w : World) (hB0 : Below wB.heap.size wB w) (hSge : ∀ k, k = b0 → wB.heap.size ≤ k) (hts : RowsAt wB v 4 (ts.map Tk.cs)) (hb0 : w.heap[b0]? = some (.cells #[v, .int .i64 en, .int .i64 dp] 102)) (hn : n ≤ 100) (hg : (namesP en n [] ts).isOk = true) :
  Calls Tryz.prog 88 ([.pointer (some ⟨b0, 0, none⟩), .int .i64 (n : Int)] : List Value).toArray w fun e w' => RetP (fun k => k = b0) wB b0 en dp (okNs 9 w) (namesP en n [] ts) w e w' := by
 have hR := Fr.refl (fun k => k = b0) w
 have hB := hB0
 refine At.enter (N := 17) Tryz.func88 rfl rfl (by simp) [(0, .pointer (some ⟨b0, 0, none⟩)), (1, .int .i64 (n : Int))] (by simp) ?_
 refine .seq (.region (.assign rfl rfl (.ops0 (.thenN (.seq (.region (.assign rfl rfl (.ops0 (.thenN (.seq (.seq (.region (.move rfl rfl (.move rfl rfl (.ops0 (.thenN (.block ?_)))))))))))))))))
 refine At.loop (Nat × List Tk × Value × List ByteArray × Value) (fun (k, us, vr, l, vl) => [(0, .pointer (some ⟨b0, 0, none⟩)), (5, vl), (6, .int .i64 (n : Int)), (7, .int .i64 (k : Int))]) (fun (k, us, vr, l, vl) w1 => Fr (fun k => k = b0) w w1 ∧ w1.heap[b0]? = some (.cells #[vr, .int .i64 en, .int .i64 dp] 102) ∧ OwnS 9 w1 vl l ∧ (k ≤ n) ∧ (RowsAt wB vr 4 (us.map Tk.cs)) ∧ (namesP en n [] ts = namesP en (n - k) l us) ∧ (∀ g, Value.ownBlock vl = some g → w.heap.size ≤ g) ∧ (l.length = k)) (fun (k, us, vr, l, vl) => n - k) (0, ts, v, [], zN) (sC rfl (sC rfl (sC rfl (sC rfl sN)))) ⟨hR, hb0, OwnS.nil 9 _, (Nat.zero_le _), (hts), (rfl), (fun g h => by cases h), (rfl)⟩ (fun gh w1 hI => ?_)
 obtain ⟨k, us, vr, l, vl⟩ := gh
 clear hR hB hb0
 obtain ⟨hR, hb0, hO, hkb, hus, hs, gO, hll⟩ := hI
 have hB := Fr.below hR hB0 hB0.size hSge
 show At _ _ [(0, .pointer (some ⟨b0, 0, none⟩)), (5, vl), (6, .int .i64 (n : Int)), (7, .int .i64 (k : Int))] _ _
 refine .seq (.region (.lss rfl rfl rfl (.ops0 (.thenN (.seq ?_)))))
 refine At.cond (b := decide ((k : Int) < (n : Int))) rfl (fun hc1 => ?_) (fun hc1 => ?_)
 ·skip
  have hc1' := of_decide_eq_true hc1
  refine .skip (.thenN (.seq (.block (.region (.move rfl rfl (.move rfl rfl ?_))))))
  refine At.call en79 rfl rfl (word_any us vr 2 _ hB hSge hus hb0 (by decide) (PR.sub hg (by rw [hs, show n - k = (n - (k + 1)) + 1 by omega, namesP]; (try simp only [SB, hc1]); repeat constructor))) (fun e wp1 hR' => ?_)
  obtain ⟨x1, us1, val1, vr1, hq1, rfl, hF1, hts1, hbo1, ho1⟩ := hR'
  refine ⟨_, rfl, ?_⟩
  replace hO := OwnS.frB hO hF1 hb0 rfl
  replace hb0 := hbo1
  have hsz1 := hR.size
  replace hR := Fr.then hR hF1 (fun k hk => .inl hk)
  obtain rfl := ho1
  refine .fieldC rfl ft141_1 ag9 (((tk_ok x1)).c1) rfl ?_
  refine At.buildSlice (xs := [.tmp 12]) rfl rfl el25 sz9 ze9 (by intro v hv; simp only [List.mem_cons, List.not_mem_nil, or_false] at hv; rcases hv with rfl <;> first | rfl | simp [Value.cells]) rfl (by decide) rfl (fun b1 w2 F1 => ?_)
  have q_hO_b1 : some b1 ≠ Value.ownBlock vl := Own.neFresh hO F1
  replace hb0 := F1.old hb0
  replace hO := hO.fresh F1
  have hb1 : w2.heap[b1]? = some (.cells #[.string (bs x1.t)] 9) := F1.new
  replace hR := hR.freshF F1
  refine At.appendS (ss := l) rfl rfl el25 el25 sz9 by9 ze9 rfl hO ((StrsAt.own (ss := [(bs x1.t)]) hb1 rfl (by decide) : StrsAt _ (.slice (some ⟨b1, 0, none⟩) 1 1) [(bs x1.t)])) (by first | omega | (simp; omega)) rfl (fun va1 w3 hO1 hA1 => ?_)
  replace hb0 := hA1.old hb0 (hO.neT hb0 rfl)
  clear hb1
  have ghO1 := hA1.ge hR.size gO
  replace hR := hR.appF hA1 (fun g hg => .inr (gO g hg))
  refine .assign rfl rfl (.ops0 (.inN (.thenN (.region (.addI rfl rfl rfl (by first | omega | (simp; omega)) (.move rfl rfl (.ops0 (.thenN ?_))))))))
  exact fun act_ hact_ => ⟨((k + 1), us1, vr1, (l ++ [(bs x1.t)]), va1), hact_.sub (sC rfl (sC rfl (sC rfl (sC rfl sN)))), ⟨hR, hb0, hO1, (by omega), (hts1), (by rw [hs, show n - k = (n - (k + 1)) + 1 by omega, namesP]; simp only [hc1, hq1, PR.bind_ok]), (ghO1), (by simp [hll])⟩, by first | omega | (dsimp only; omega)⟩
 have hc1' := of_decide_eq_false hc1
 refine .exit (.thenE (.thenE (.inE (.thenN (.seq (.region (.move rfl rfl (.assign rfl rfl (.ops0 (.thenN (.retc (.doneR (ResV.tmp rfl ResV.nil) ?_))))))))))))
 exact RetP.ok (by rw [hs, show n - k = 0 by omega, namesP]) hR hus hb0 ⟨hO, gO⟩
theorem MLt.mono {a b : Nat} {M : List (Option Nat)} (h : MLt a M) (hab : a ≤ b) : MLt b M := fun g hg => Nat.lt_of_lt_of_le (h g hg) hab
theorem ne_ty {w : World} {a b : Nat} {C C' : Array Value} {T T' : TypeId} {f f' : Nat × Nat} (ha : w.heap[a]? = some (.cells C T f)) (hb : w.heap[b]? = some (.cells C' T' f')) (h : Nat.beq T T' = false) : a ≠ b := by
  rintro rfl
  rw [ha] at hb
  simp only [Option.some.injEq, Obj.cells.injEq] at hb
  obtain ⟨-, rfl, -⟩ := hb
  simp at h
theorem set_snoc {α : Type} (l : List α) (a b : α) : (l ++ [a]).set l.length b = l ++ [b] := by
  induction l with
  | nil => rfl
  | cons x l ih => simp
theorem All2.snoc {α β : Type} {R : α → β → Prop} {xs : List α} {ts : List β} {x : α} {t : β} (h : All2 R xs ts) (k : R x t) : All2 R (xs ++ [x]) (ts ++ [t]) := by
  induction h with
  | nil => exact .cons k .nil
  | cons a _ ih => exact .cons a ih
theorem All2.mono {α β : Type} {R R' : α → β → Prop} {xs : List α} {ts : List β} (h : All2 R xs ts) (k : ∀ x t, R x t → R' x t) : All2 R' xs ts := by
  induction h with
  | nil => exact .nil
  | cons a _ ih => exact .cons (k _ _ a) ih
theorem All2.map {α β : Type} {f : β → α} {xs : List α} {ts : List β} (h : All2 (fun x t => f t = x) xs ts) : ts.map f = xs := by
  induction h with
  | nil => rfl
  | cons a _ ih => rw [List.map_cons, a, ih]
theorem All2.all {α β : Type} {R : α → β → Prop} {Q : β → Prop} {xs : List α} {ts : List β} (h : All2 R xs ts) (k : ∀ x t, R x t → Q t) : ∀ t ∈ ts, Q t := by
  induction h with
  | nil => intro t ht; cases ht
  | cons a _ ih => intro t ht; rcases List.mem_cons.1 ht with rfl | h; exact k _ _ a; exact ih t h
theorem Nin.tail {s : Nat} {o : Option Nat} {M : List (Option Nat)} (h : MLt s M) (hg : ∀ g, o = some g → s ≤ g) : Nin o M := fun hn hm => by
  cases o with
  | none => exact hn rfl
  | some g => have := h g hm; have := hg g rfl; omega
theorem At.storePart {P : Program} {N : Nat} {ds : List Deferred} {L : List (Nat × Value)} {w : World} {ops : Array Oper} {Q : Exit → Act → World → Prop} {rest : List Oper} {ty : TypeId} {pos : String} {aft : Array Edge} {x y : Operand} {t T : TypeId} {b o : Nat} {cs C : Array Value}
    (hx : ev L x = some (.pointer (some ⟨b, o, none⟩))) (hy : ev L y = some (.agg cs)) (hb : w.heap[b]? = some (.cells C T)) (hs : sizeB P t = some cs.size)
    (hr : o + cs.size ≤ C.size) (h1 : cs.all (·.oneCell') = true) (k : ∀ w', SetB w w' b (.cells (splice C o cs) T) → At N ds L (wpList P ops Q rest) w') :
    At N ds L (wpList P ops Q (⟨none, .store t x y, ty, pos, aft, none⟩ :: rest)) w :=
  At.store hx hy hb hs hr (by simpa [Value.cells] using h1) k
theorem SubM.nil {α : Type} {M : List α} : ∀ o ∈ ([] : List α), o ∈ M := fun _ h => by cases h
theorem SubM.cons {α : Type} {M M' : List α} {a : α} (h : a ∈ M) (t : ∀ o ∈ M', o ∈ M) : ∀ o ∈ a :: M', o ∈ M := fun o ho => by
  rcases List.mem_cons.1 ho with rfl | h'
  · exact h
  · exact t o h'
theorem mem2 {α : Type} {Q : α → Prop} {a b : α} (h1 : Q a) (h2 : Q b) : ∀ u ∈ [a, b], Q u := by
  intro u hu; simp at hu; rcases hu with rfl | rfl <;> assumption
theorem rows_tm {w : World} {b m : Nat} {ks : List Tm} {T : TypeId} {fr : Nat × Nat} (h : w.heap[b]? = some (.cells ((ks.map Tm.cs).flatMap (·.toList)).toArray T fr)) (hk : ∀ u ∈ ks, TmOk w u) (hm : m = ks.length) (hl : m ≤ 9223372036854775807) :
    RowsAt w (.slice (some ⟨b, 0, none⟩) m m) 21 (ks.map Tm.cs) :=
  RowsAt.own (rows := ks.map Tm.cs) h (by intro r hr; obtain ⟨u, hu, rfl⟩ := List.mem_map.1 hr; exact (hk u hu).size) (by simpa using hm) lR hl
theorem Is.dup {N : Nat} {ds : List Deferred} {d : Nat} {v u : Value} {X : List (Nat × Value)} {a : Act} (h : Is N ds ((d, v) :: (d, u) :: X) a) : Is N ds ((d, v) :: X) a := by
  refine ⟨h.size, h.defers, fun t x hl => h.get t x ?_⟩
  simp only [look] at hl ⊢
  by_cases e : d = t
  · rw [beqT e] at hl ⊢; exact hl
  · rw [beqF e] at hl ⊢; exact hl
section
variable {M : List (Option Nat)} {w : World}
theorem Xs.mkT {k a : Int} {nm pm : ByteArray} {n : Int} {kv av : Value} {ks : List Tm} {ms : List Am} (hk : Xs kTm M w ks) (ha : Xs kAm M w ms) (h1 : RowsAt w kv 21 (ks.map Tm.cs)) (h2 : RowsAt w av 23 (ms.map Am.cs)) (hkv : ks ≠ [] → some (vBlock kv) ∉ M) (hav : ms ≠ [] → some (vBlock av) ∉ M) :
    Xs kTm M w [tmA k a nm pm n kv ks av ms] := fun u hu => by
  obtain rfl := List.mem_singleton.1 hu
  refine ⟨tmA_ok h1 (Xs.ok hk) h2 (Xs.ok ha), fun b hb => ?_⟩
  have hb : tmBlk (tmA k a nm pm n kv ks av ms) b := hb
  rw [tmA, tmBlk] at hb
  rcases hb with ⟨h, rfl⟩ | ⟨h, rfl⟩ | h | h
  · exact hkv h
  · exact hav h
  · obtain ⟨u, hu, hb⟩ := tmBlkL_iff.1 h; exact (hk u hu).2 b hb
  · obtain ⟨u, hu, hb⟩ := amBlkL_iff.1 h; exact (ha u hu).2 b hb
theorem Xs.mkA {nm : ByteArray} {vv : Value} {vs : List ByteArray} {t : Tm} (ht : Xs kTm M w [t]) (h1 : StrsAt w vv vs) (hv : vs ≠ [] → some (vBlock vv) ∉ M) : Xs kAm M w [amA nm vv vs t] := fun u hu => by
  obtain rfl := List.mem_singleton.1 hu
  refine ⟨amA_ok h1 (Xs.one ht), fun b hb => ?_⟩
  have hb : amBlk (amA nm vv vs t) b := hb
  rw [amA, amBlk] at hb
  rcases hb with ⟨h, rfl⟩ | hb
  · exact hv h
  · exact (ht t (by simp)).2 b hb
theorem Xs.cons {α : Type} {K : Kd α} {u : α} {l : List α} (h : Xs K M w [u]) (k : Xs K M w l) : Xs K M w (u :: l) := Xs.append (l := [u]) h k
theorem notin_lt {b : Nat} {s : Nat} (hM : MLt s M) (hb : s ≤ b) : some b ∉ M := fun h => by have := hM b h; omega
end
def ExC (en dp : Int) (ex : List Tk → PR ST) : Prop := ∀ (wB : World) (b0 : Nat) (ts : List Tk) (v : Value) (w : World), Below wB.heap.size wB w → (∀ k, k = b0 → wB.heap.size ≤ k) → RowsAt wB v 4 (ts.map Tk.cs) → w.heap[b0]? = some (.cells #[v, .int .i64 en, .int .i64 dp] 102) → ts.length ≤ 100000000 → (ex ts).isOk = true →
  Calls Tryz.prog 62 ([.pointer (some ⟨b0, 0, none⟩)] : List Value).toArray w fun e w' => RetP (fun k => k = b0) wB b0 en dp (okT w) (ex ts) w e w'
def SideC (en dp : Int) (c : FuncId) (sd : List Tk → PR ST) : Prop := ∀ (wB : World) (b0 : Nat) (ts : List Tk) (v : Value) (w : World), Below wB.heap.size wB w → (∀ k, k = b0 → wB.heap.size ≤ k) → RowsAt wB v 4 (ts.map Tk.cs) → w.heap[b0]? = some (.cells #[v, .int .i64 en, .int .i64 dp] 102) → ts.length ≤ 100000000 → (sd ts).isOk = true →
  Calls Tryz.prog c ([.pointer (some ⟨b0, 0, none⟩)] : List Value).toArray w fun e w' => RetP (fun k => k = b0) wB b0 en dp (okT w) (sd ts) w e w'
theorem OwnS.neB {T T' : TypeId} {w : World} {v : Value} {ss : List ByteArray} {b0 : Nat} {C : Array Value} {fr : Nat × Nat} (h : OwnS T w v ss) (hb : w.heap[b0]? = some (.cells C T' fr)) (hT : Nat.beq T' T = false) : ss ≠ [] → vBlock v ≠ b0 := fun hn e => by
  have := Own.vb h (fun e => hn (List.eq_nil_of_length_eq_zero e))
  rw [e] at this
  exact h.neT hb hT this.symm
theorem MT.atEq {w : World} {k a a' : Int} {nm pm : ByteArray} {n : Int} {xs : List ST} {ys : List SA} {t : Tm} (h : MT w (.mk k a nm pm n xs ys) t) (e : a = a') : MT w (.mk k a' nm pm n xs ys) t := e ▸ h
theorem splice_arm {z : Array Value} {a b : Value} {cs : Array Value} (hz : z.size = 23) (hc : cs.size = 21) (h0 : z[0]? = some a) (h1 : z[1]? = some b) : splice z 2 cs = #[a, b] ++ cs := by
  apply Array.ext'
  unfold splice
  have e : z.toList.take 2 = [a, b] := by
    have a0 : z.toList[0]? = some a := by simpa using h0
    have a1 : z.toList[1]? = some b := by simpa using h1
    rw [List.take_add_one, List.take_add_one, List.take_zero, a0, a1]; rfl
  have e2 : z.toList.drop (2 + cs.size) = [] := List.drop_eq_nil_of_le (by rw [Array.length_toList]; omega)
  simp [e, e2]
def zeroTm : Tm := .mk #[.int .i64 0, .int .i64 0, .string (⟨#[]⟩ : ByteArray), .string (⟨#[]⟩ : ByteArray), .int .i64 0, .slice none 0 0, .slice none 0 0, .int .i64 0, .string (⟨#[]⟩ : ByteArray), .int .i64 0, .slice none 0 0, .slice none 0 0, .int .i64 0, .slice none 0 0, .int .i64 0, .int .i64 0, .string (⟨#[]⟩ : ByteArray), .int .i64 0, .slice none 0 0, .slice none 0 0, .int .i64 0] 0 0 E0B E0B 0 (.slice none 0 0) (.slice none 0 0) [] []
def zeroAm : Am := .mk #[.string (⟨#[]⟩ : ByteArray), .slice none 0 0, .int .i64 0, .int .i64 0, .string (⟨#[]⟩ : ByteArray), .string (⟨#[]⟩ : ByteArray), .int .i64 0, .slice none 0 0, .slice none 0 0, .int .i64 0, .string (⟨#[]⟩ : ByteArray), .int .i64 0, .slice none 0 0, .slice none 0 0, .int .i64 0, .slice none 0 0, .int .i64 0, .int .i64 0, .string (⟨#[]⟩ : ByteArray), .int .i64 0, .slice none 0 0, .slice none 0 0, .int .i64 0] E0B (.slice none 0 0) [] zeroTm
theorem zeroTm_ok (w : World) : TmOk w zeroTm := .mk ⟨rfl, by simp [zeroTm, Tm.cs, Value.oneCell'], rfl, rfl, rfl, rfl, rfl, rfl, rfl, RowsAt.nil w 21, RowsAt.nil w 23⟩ (fun _ h => by cases h) (fun _ h => by cases h)
theorem zeroAm_ok (w : World) : AmOk w zeroAm := .mk ⟨rfl, by simp [zeroAm, Am.cs, Value.oneCell'], rfl, rfl, StrsAt.nil w, rfl⟩ (zeroTm_ok w)
theorem NI.nil (b : Nat) : some b ∉ ([] : List (Option Nat)) := fun h => by cases h
theorem NI.cons {a b : Nat} {M : List (Option Nat)} (h : a ≠ b) (t : some b ∉ M) : some b ∉ some a :: M := fun hm => by
  rcases List.mem_cons.1 hm with e | e
  · exact h (Option.some.inj e).symm
  · exact t e
theorem ag31 : aggB Tryz.prog 31 = some true := by kernel_rfl
theorem ag40 : aggB Tryz.prog 40 = some true := by kernel_rfl
theorem el22 : elemB Tryz.prog 22 = some 31 := by kernel_rfl
theorem en104 : entB Tryz.prog 104 = true := by kernel_rfl
theorem en62 : entB Tryz.prog 62 = true := by kernel_rfl
theorem en78 : entB Tryz.prog 78 = true := by kernel_rfl
theorem en88 : entB Tryz.prog 88 = true := by kernel_rfl
theorem en98 : entB Tryz.prog 98 = true := by kernel_rfl
theorem fo31_0 : fieldB Tryz.prog 31 0 = some (0, 1) := by kernel_rfl
theorem fo31_1 : fieldB Tryz.prog 31 1 = some (1, 1) := by kernel_rfl
theorem fo31_2 : fieldB Tryz.prog 31 2 = some (2, 1) := by kernel_rfl
theorem fo31_5 : fieldB Tryz.prog 31 5 = some (5, 1) := by kernel_rfl
theorem fo40_0 : fieldB Tryz.prog 40 0 = some (0, 1) := by kernel_rfl
theorem fo40_1 : fieldB Tryz.prog 40 1 = some (1, 1) := by kernel_rfl
theorem fo40_2 : fieldB Tryz.prog 40 2 = some (2, 21) := by kernel_rfl
theorem mixed : Tryz.prog.follows .mixedOrders = true := by kernel_rfl
theorem sd31 : sizedB Tryz.prog 31 = true := by kernel_rfl
theorem sz25 : sizeB Tryz.prog 25 = some 1 := by kernel_rfl
theorem sz31 : sizeB Tryz.prog 31 = some 21 := by kernel_rfl
theorem sz40 : sizeB Tryz.prog 40 = some 23 := by kernel_rfl
theorem ze31 : zeroB Tryz.prog 31 = some (.agg #[.int .i64 0, .int .i64 0, .string (⟨#[]⟩ : ByteArray), .string (⟨#[]⟩ : ByteArray), .int .i64 0, (.slice none 0 0), (.slice none 0 0), .int .i64 0, .string (⟨#[]⟩ : ByteArray), .int .i64 0, (.slice none 0 0), (.slice none 0 0), .int .i64 0, (.slice none 0 0), .int .i64 0, .int .i64 0, .string (⟨#[]⟩ : ByteArray), .int .i64 0, (.slice none 0 0), (.slice none 0 0), .int .i64 0]) := by kernel_rfl
theorem ze40 : zeroB Tryz.prog 40 = some (.agg #[.string (⟨#[]⟩ : ByteArray), (.slice none 0 0), .int .i64 0, .int .i64 0, .string (⟨#[]⟩ : ByteArray), .string (⟨#[]⟩ : ByteArray), .int .i64 0, (.slice none 0 0), (.slice none 0 0), .int .i64 0, .string (⟨#[]⟩ : ByteArray), .int .i64 0, (.slice none 0 0), (.slice none 0 0), .int .i64 0, (.slice none 0 0), .int .i64 0, .int .i64 0, .string (⟨#[]⟩ : ByteArray), .int .i64 0, (.slice none 0 0), (.slice none 0 0), .int .i64 0]) := by kernel_rfl
theorem two_any (nm : ByteArray) (t1 t2 : Tm) (w : World) (h1 : TmOk w t1) (h2 : TmOk w t2) :
  Calls Tryz.prog 104 ([.string nm, .agg t1.cs, .agg t2.cs] : List Value).toArray w fun e w' => ∃ kv, e = .returned (.agg (tmC 10 t1.at_ nm E0B 0 kv zN)) ∧ Below w.heap.size w w' ∧ RowsAt w' kv 21 ([t1, t2].map Tm.cs) ∧ w.heap.size ≤ vBlock kv := by
 have hB := Below.refl w.heap.size w
 refine At.enter (N := 14) Tryz.func104 rfl rfl (by simp) [(0, .string nm), (1, .agg t1.cs), (2, .agg t2.cs)] (by simp) ?_
 refine .seq (.region ?_)
 refine At.box rfl rfl (fun b1 w1 F1 => ?_)
 have hb1 : w1.heap[b1]? = some (.cells t1.cs 31) := F1.new
 replace hB := F1.below' hB
 refine At.box rfl rfl (fun b2 w2 F2 => ?_)
 replace hb1 := F2.old hb1
 have hb2 : w2.heap[b2]? = some (.cells t2.cs 31) := F2.new
 replace hB := F2.below' hB
 refine At.alloc ze31 rfl (fun b3 w3 F3 => ?_)
 have gb3 := F3.ge hB
 replace hb1 := F3.old hb1
 replace hb2 := F3.old hb2
 have hb3 : w3.heap[b3]? = some (.cells #[zI, zI, zS, zS, zI, zN, zN, zI, zS, zI, zN, zN, zI, zN, zI, zI, zS, zI, zN, zN, zI] 31) := F3.new
 replace hB := F3.below' hB
 refine .ops0 (.thenN (.seq (.region (.fieldAddr rfl fo31_1 rfl (.load rfl (Ld.ownCell ag3 hb1 (h1).c1) rfl (.move rfl rfl (.load rfl (Ld.own ag31 (sz31.trans (congrArg some (h1).size.symm)) hb1) rfl (.load rfl (Ld.own ag31 (sz31.trans (congrArg some (h2).size.symm)) hb2) rfl ?_))))))))
 refine At.buildSlice (xs := [.tmp 10, .tmp 11]) rfl rfl el22 sz31 ze31 (by intro v hv; simp only [List.mem_cons, List.not_mem_nil, or_false] at hv; rcases hv with rfl | rfl <;> first | rfl | simp [Value.cells, (h1).size, (h2).size]) rfl (by decide) rfl (fun b4 w4 F4 => ?_)
 have n_b3_b4 := F4.ne' hb3
 have gb4 := F4.ge hB
 replace hb3 := F4.old hb3
 have hb4 : w4.heap[b4]? = some (.cells (([t1, t2].map Tm.cs).flatMap (·.toList)).toArray 31) := F4.new
 replace hB := F4.below' hB
 refine .build (C := #[.int .i64 10, .int .i64 t1.at_, .string nm, zS, zI, (.slice (some ⟨b4, 0, none⟩) 2 2), zN, zI, zS, zI, zN, zN, zI, zN, zI, zI, zS, zI, zN, zN, zI]) sd31 ze31 rfl (Bld.cons fo31_0 rfl (lB rfl) (Bld.cons fo31_1 rfl (lB rfl) (Bld.cons fo31_2 rfl (lB rfl) (Bld.cons fo31_5 rfl (lB rfl) (Bld.nil _))))) rfl ?_
 refine At.storeAll rfl rfl hb3 sz31 rfl (by first | (simp [Value.oneCell', ((SlOk.nil)).one]; done) | (simp only [List.all_toArray, List.all_cons, List.all_nil, ((SlOk.nil)).one, Bool.and_true, Bool.true_and] <;> rfl)) (fun w5 S1 => ?_)
 replace hb4 := S1.other hb4 n_b3_b4.symm
 replace hb3 : w5.heap[b3]? = some (.cells #[.int .i64 10, .int .i64 t1.at_, .string nm, zS, zI, (.slice (some ⟨b4, 0, none⟩) 2 2), zN, zI, zS, zI, zN, zN, zI, zN, zI, zI, zS, zI, zN, zN, zI] 31) := S1.new
 replace hB := S1.below' hB gb3
 refine .ops0 (.thenN (.retc (.doneR (ResV.cell rfl (Ld.own (C := #[.int .i64 10, .int .i64 t1.at_, .string nm, zS, zI, (.slice (some ⟨b4, 0, none⟩) 2 2), zN, zI, zS, zI, zN, zN, zI, zN, zI, zI, zS, zI, zN, zN, zI]) ag31 sz31 hb3) ResV.nil) ?_)))
 exact ⟨_, rfl, hB, (rows_tm (m := 2) hb4 (mem2 (Q := fun u => TmOk w5 u) ((h1).keep hB) ((h2).keep hB)) rfl (by decide)), gb4⟩
theorem once_any {wB : World} {b0 : Nat} {en dp : Int} (ts : List Tk) (v : Value) (c : FuncId) (sd : List Tk → PR ST) (vs : Value) (ss : List ByteArray) (w : World) (hB0 : Below wB.heap.size wB w) (hSge : ∀ k, k = b0 → wB.heap.size ≤ k) (hts : RowsAt wB v 4 (ts.map Tk.cs)) (hb0 : w.heap[b0]? = some (.cells #[v, .int .i64 en, .int .i64 dp] 102)) (hbig : ts.length ≤ 100000000) (hent : entB Tryz.prog c = true) (hshd : ∀ ts, (sd ts).Sh ts.length) (hsd : SideC en dp c sd) (hsg : OwnS 9 w vs ss) (hg : (onceP en sd ss ts).isOk = true) :
  Calls Tryz.prog 99 ([.pointer (some ⟨b0, 0, none⟩), .func (.func c) #[.pointer (some ⟨b0, 0, none⟩)] #[], vs] : List Value).toArray w fun e w' => RetP (fun k => k = b0) wB b0 en dp (okT w) (onceP en sd ss ts) w e w' := by
 have htl := hts.lenL
 have hR := Fr.refl (fun k => k = b0) w
 refine At.enter (N := 27) Tryz.func99 rfl rfl (by simp) [(0, .pointer (some ⟨b0, 0, none⟩)), (1, .func (.func c) #[.pointer (some ⟨b0, 0, none⟩)] #[]), (2, vs)] (by simp) ?_
 refine .seq (.region ?_)
 refine At.alloc ze31 rfl (fun b1 w1 F1 => ?_)
 have n_b0_b1 := F1.ne' hb0
 have gb1 := F1.gq hR.size
 replace hb0 := F1.old hb0
 replace hsg := hsg.fresh F1
 have hb1 : w1.heap[b1]? = some (.cells #[zI, zI, zS, zS, zI, zN, zN, zI, zS, zI, zN, zN, zI, zN, zI, zI, zS, zI, zN, zN, zI] 31) := F1.new
 replace hR := hR.freshF F1
 replace hB := Fr.below hR hB0 hB0.size hSge
 refine .ops0 (.thenN (.seq (.region (.move rfl rfl ?_))))
 have hml1 : MLt w1.heap.size [some b0, some b1] := (MLt.blk hb0 (MLt.blk hb1 (MLt.nil _)))
 refine At.callVF rfl hent rfl rfl (hsd wB b0 ts v _ hB hSge hts hb0 (hbig) (PR.sub hg (by (try simp only [onceP, SB]); repeat constructor))) (fun e wp1 hR' => ?_)
 obtain ⟨x1, us1, val1, vr1, hq1, rfl, hF1, hts1, hbo1, ho1⟩ := hR'
 refine ⟨_, rfl, ?_⟩
 replace hb1 := Fr.oldB hF1 hb1 (n_b0_b1.symm)
 replace hsg := OwnS.frB hsg hF1 hb0 rfl
 replace hb0 := hbo1
 have hsz1 := hR.size
 replace hR := Fr.then hR hF1 (fun k hk => .inl hk)
 obtain ⟨tm1, rfl, htm1, hmt1⟩ := ho1
 have hx1 := Xs.of_new (B := 0) (M := [some b0, some b1]) (K := kTm) htm1 (fun b hb => .inr (hmt1.blk b hb)) (fun _ _ => Nat.zero_le _) hml1
 replace hmt1 := hmt1.mono hsz1
 refine At.alloc ze31 rfl (fun b2 w2 F2 => ?_)
 have n_b0_b2 := F2.ne' hb0
 have n_b1_b2 := F2.ne' hb1
 have gb2 := F2.gq hR.size
 replace hb0 := F2.old hb0
 replace hb1 := F2.old hb1
 replace hsg := hsg.fresh F2
 replace hx1 := Xs.fresh hx1 F2
 have hb2 : w2.heap[b2]? = some (.cells #[zI, zI, zS, zS, zI, zN, zN, zI, zS, zI, zN, zN, zI, zN, zI, zI, zS, zI, zN, zN, zI] 31) := F2.new
 replace hR := hR.freshF F2
 refine At.storeAll rfl rfl hb2 (sz31.trans (congrArg some ((Xs.one hx1)).size.symm)) ((Xs.one hx1)).size.symm ((Xs.one hx1)).one (fun w3 S1 => ?_)
 replace hb0 := S1.other hb0 n_b0_b2
 replace hb1 := S1.other hb1 n_b1_b2
 replace hsg := hsg.set S1 (hsg.neT hb2 rfl)
 replace hx1 := Xs.set hx1 S1 (by simp)
 replace hb2 : w3.heap[b2]? = some (.cells tm1.cs 31) := S1.new
 replace hR := hR.setF S1 (.inr gb2)
 replace hB := Fr.below hR hB0 hB0.size hSge
 refine .ops0 (.thenN (.seq (.seq (.region (.move rfl rfl (.nilCheck rfl rfl (.fieldAddr rfl fo102_0 rfl (.move rfl rfl ?_))))))))
 refine At.call en59 rfl rfl (is_any us1 vr1 vs ss _ ((hts1).keep hB) hb0 (((hsg.strs).keep (Below.refl _ _)))) (fun e w4 hR' => ?_)
 obtain ⟨rfl, hbl1⟩ := hR'
 refine ⟨_, rfl, ?_⟩
 replace hb0 := Below.old hbl1 hb0
 replace hb1 := Below.old hbl1 hb1
 replace hb2 := Below.old hbl1 hb2
 replace hsg := hsg.below hbl1
 replace hx1 := Xs.below hx1 hbl1
 replace hR := hR.callF hbl1
 replace hB := Fr.below hR hB0 hB0.size hSge
 refine .ops0 (.thenN ?_)
 refine At.cond (b := (isK en us1 ss)) rfl (fun hc1 => ?_) (fun hc1 => ?_)
 ·skip
  refine .seq (.region (.move rfl rfl (.nilCheck rfl rfl (.fieldAddr rfl fo102_0 rfl ?_))))
  refine At.call en87 rfl rfl (ptake_any us1 vr1 _ hB hSge hts1 hb0 (is_len hc1)) (fun e wp2 hR' => ?_)
  obtain ⟨vr2, rfl, hts2, hbo2, hF2⟩ := hR'
  refine ⟨_, rfl, ?_⟩
  replace hb1 := Fr.oldB hF2 hb1 (n_b0_b1.symm)
  replace hb2 := Fr.oldB hF2 hb2 (n_b0_b2.symm)
  replace hsg := OwnS.frB hsg hF2 hb0 rfl
  replace hx1 := Xs.frS hx1 hF2 (by rintro k rfl; simp)
  replace hb0 := hbo2
  replace hR := Fr.then hR hF2 (fun k hk => .inl hk)
  replace hB := Fr.below hR hB0 hB0.size hSge
  refine .fieldC rfl ft141_1 ag9 (((tk_ok (nx en us1))).c1) rfl (.assign rfl rfl (.ops0 (.thenN (.seq (.drawG (n := 6) mixed (by kernel_rfl) rfl (PanicOk.then (PanicOk.then PanicOk.body)) ?_)))))
  have hR := Fr.drewF hR
  have hB := Below.drewB hB
  have hb0 : _ := (show wp2.drew.heap[b0]? = _ from hb0)
  have hb1 : _ := (show wp2.drew.heap[b1]? = _ from hb1)
  have hb2 : _ := (show wp2.drew.heap[b2]? = _ from hb2)
  have hsg := hsg.drew
  have hx1 := Xs.drew hx1
  refine .wpcS (i := 0) (d := 21) (.string (bs ((nx en us1).t))) (by kernel_rfl) rfl rfl rfl (fun Lx => .move rfl rfl (.ops0 fun a ha => ⟨ha, rfl⟩)) ?_
  refine .wpcS (i := 1) (d := 22) (.agg tm1.cs) (by kernel_rfl) rfl rfl rfl (fun Lx => .load rfl (Ld.own ag31 (sz31.trans (congrArg some ((Xs.one hx1)).size.symm)) hb2) rfl (.ops0 fun a ha => ⟨ha, rfl⟩)) ?_
  refine .wpcS (i := 2) (d := 23) (.func (.func c) #[.pointer (some ⟨b0, 0, none⟩)] #[]) (by kernel_rfl) rfl rfl rfl (fun Lx => .move rfl rfl (.ops0 fun a ha => ⟨ha, rfl⟩)) ?_
  refine At.wpcE [3] (by kernel_rfl) (by kernel_rfl) (.cons [0, 1] rfl (by kernel_rfl) ?_ .nil)
  have hml3 : MLt wp2.drew.heap.size [some b0, some b1, some b2] := (MLt.blk hb0 (MLt.blk hb1 (MLt.blk hb2 (MLt.nil _))))
  refine At.callVF rfl hent rfl rfl (hsd wB b0 us1.tail vr2 _ hB hSge hts2 hb0 (by have hz := hbig; have := PR.Sh.of (hshd ts) hq1; have := tail_len (is_len hc1); omega) (PR.sub hg (by (try simp only [onceP, SB, hc1, hq1]); repeat constructor))) (fun e wp3 hR' => ?_)
  obtain ⟨x3, us3, val3, vr3, hq3, rfl, hF3, hts3, hbo3, ho3⟩ := hR'
  refine ⟨_, rfl, ?_⟩
  replace hb1 := Fr.oldB hF3 hb1 (n_b0_b1.symm)
  replace hb2 := Fr.oldB hF3 hb2 (n_b0_b2.symm)
  replace hsg := OwnS.frB hsg hF3 hb0 rfl
  replace hx1 := Xs.frS hx1 hF3 (by rintro k rfl; simp)
  replace hb0 := hbo3
  have hsz3 := hR.size
  replace hR := Fr.then hR hF3 (fun k hk => .inl hk)
  obtain ⟨tm3, rfl, htm3, hmt3⟩ := ho3
  have hx3 := Xs.of_new (B := 0) (M := [some b0, some b1, some b2]) (K := kTm) htm3 (fun b hb => .inr (hmt3.blk b hb)) (fun _ _ => Nat.zero_le _) hml3
  replace hmt3 := hmt3.mono hsz3
  refine .ops0 ?_
  refine At.wpcN (.cons rfl rfl rfl rfl (fun Lx => ?_) (.cons rfl rfl rfl rfl (fun Lx => ?_) .nil)) ?_
  ·skip
   exact .move rfl rfl (.ops0 fun a ha => ⟨ha, rfl⟩)
  ·skip
   exact .load rfl (Ld.own ag31 (sz31.trans (congrArg some ((Xs.one hx1)).size.symm)) hb2) rfl (.ops0 fun a ha => ⟨ha, rfl⟩)
  refine At.wpcE [4] (by kernel_rfl) (by kernel_rfl) (.cons [] rfl (by kernel_rfl) ?_ .nil)
  have hml4 : MLt wp3.heap.size [some b0, some b1, some b2] := (MLt.blk hb0 (MLt.blk hb1 (MLt.blk hb2 (MLt.nil _))))
  have hsz4 := hR.size
  refine At.call en104 rfl rfl (two_any (bs ((nx en us1).t)) tm1 tm3 _ (Xs.one hx1) (Xs.one hx3)) (fun e wp4 hR' => ?_)
  obtain ⟨kv4, rfl, hbl4_, hrw4, hge4⟩ := hR'
  refine ⟨_, rfl, ?_⟩
  replace hb0 := Below.old hbl4_ hb0
  replace hb1 := Below.old hbl4_ hb1
  replace hx1 := Xs.below hx1 hbl4_
  replace hx3 := Xs.below hx3 hbl4_
  replace hR := hR.callF hbl4_
  have hx4 : Xs kTm [some b0, some b1, some b2] wp4 [(tmA 10 tm1.at_ (bs ((nx en us1).t)) E0B 0 kv4 [tm1, tm3] zN [])] := Xs.mkT (Xs.cons (Xs.weaken (M' := [some b0, some b1, some b2]) hx1 (SubM.cons (.tail _ (.head _)) (SubM.cons (.tail _ (.tail _ (.head _))) (SubM.cons (.head _) SubM.nil)))) (Xs.cons (Xs.weaken (M' := [some b0, some b1, some b2]) hx3 (SubM.cons (.head _) (SubM.cons (.tail _ (.head _)) (SubM.cons (.tail _ (.tail _ (.head _))) SubM.nil)))) (Xs.nil _ _ _))) (Xs.nil _ _ _) hrw4 (RowsAt.nil _ 23) (fun _ => notin_lt hml4 hge4) (fun h => absurd rfl h)
  have hmt4 : MT w (sTwo (bs ((nx en us1).t)) x1 x3) (tmA 10 tm1.at_ (bs ((nx en us1).t)) E0B 0 kv4 [tm1, tm3] zN []) := MT.atEq (MT.made (MTL.two hmt1 hmt3) (MAL.nil w) (fun _ => Nat.le_trans hsz4 hge4) (fun h => absurd rfl h)) (shT_at hmt1)
  refine .ops0 (.wpcN .nil ?_)
  refine At.wpcE [5] (by kernel_rfl) (by kernel_rfl) (.cons [] rfl (by kernel_rfl) ?_ .nil)
  refine At.storeAll rfl rfl hb1 (sz31.trans (congrArg some ((Xs.one hx4)).size.symm)) ((Xs.one hx4)).size.symm ((Xs.one hx4)).one (fun w5 S2 => ?_)
  replace hb0 := S2.other hb0 n_b0_b1
  replace hx1 := Xs.set hx1 S2 (by simp)
  replace hx3 := Xs.set hx3 S2 (by simp)
  replace hx4 := Xs.set hx4 S2 (by simp)
  replace hb1 : w5.heap[b1]? = some (.cells (tmA 10 tm1.at_ (bs ((nx en us1).t)) E0B 0 kv4 [tm1, tm3] zN []).cs 31) := S2.new
  replace hR := hR.setF S2 (.inr gb1)
  refine .ops0 (.wpcN .nil (.wpcZ (.thenN (.retc (.thenR (.doneR (ResV.cell rfl (Ld.own ag31 (sz31.trans (congrArg some ((Xs.one hx4)).size.symm)) hb1) ResV.nil) ?_))))))
  exact RetP.ok (x := (sTwo (bs ((nx en us1).t)) x1 x3)) (by simp only [onceP, SB, hc1, hq1, hq3] <;> rfl) hR hts3 hb0 ⟨(tmA 10 tm1.at_ (bs ((nx en us1).t)) E0B 0 kv4 [tm1, tm3] zN []), rfl, (Xs.one hx4), hmt4⟩
 refine .skip (.thenN (.seq (.region (.load rfl (Ld.own ag31 (sz31.trans (congrArg some ((Xs.one hx1)).size.symm)) hb2) rfl ?_))))
 refine At.storeAll rfl rfl hb1 (sz31.trans (congrArg some ((Xs.one hx1)).size.symm)) ((Xs.one hx1)).size.symm ((Xs.one hx1)).one (fun w6 S3 => ?_)
 replace hb0 := S3.other hb0 n_b0_b1
 replace hx1 := Xs.set hx1 S3 (by simp)
 replace hb1 : w6.heap[b1]? = some (.cells tm1.cs 31) := S3.new
 replace hR := hR.setF S3 (.inr gb1)
 refine .ops0 (.thenN (.retc (.doneR (ResV.cell rfl (Ld.own ag31 (sz31.trans (congrArg some ((Xs.one hx1)).size.symm)) hb1) ResV.nil) ?_)))
 exact RetP.ok (x := x1) (by simp only [onceP, SB, hc1, hq1] <;> rfl) hR hts1 hb0 ⟨tm1, rfl, (Xs.one hx1), hmt1⟩
theorem many_any {wB : World} {b0 : Nat} {en dp : Int} (ts : List Tk) (v : Value) (c : FuncId) (sd : List Tk → PR ST) (vs : Value) (ss : List ByteArray) (w : World) (hB0 : Below wB.heap.size wB w) (hSge : ∀ k, k = b0 → wB.heap.size ≤ k) (hts : RowsAt wB v 4 (ts.map Tk.cs)) (hb0 : w.heap[b0]? = some (.cells #[v, .int .i64 en, .int .i64 dp] 102)) (hbig : ts.length ≤ 100000000) (hent : entB Tryz.prog c = true) (hshd : ∀ ts, (sd ts).Sh ts.length) (hsd : SideC en dp c sd) (hsg : OwnS 9 w vs ss) (hg : (manyP en sd ss ts).isOk = true) :
  Calls Tryz.prog 109 ([.pointer (some ⟨b0, 0, none⟩), .func (.func c) #[.pointer (some ⟨b0, 0, none⟩)] #[], vs] : List Value).toArray w fun e w' => RetP (fun k => k = b0) wB b0 en dp (okT w) (manyP en sd ss ts) w e w' := by
 have htl := hts.lenL
 have hR := Fr.refl (fun k => k = b0) w
 have hB := hB0
 refine At.enter (N := 27) Tryz.func109 rfl rfl (by simp) [(0, .pointer (some ⟨b0, 0, none⟩)), (1, .func (.func c) #[.pointer (some ⟨b0, 0, none⟩)] #[]), (2, vs)] (by simp) ?_
 refine .seq (.region ?_)
 refine At.alloc ze31 rfl (fun b1 w1 F1 => ?_)
 have n_b0_b1 := F1.ne' hb0
 have gb1 := F1.gq hR.size
 replace hb0 := F1.old hb0
 replace hsg := hsg.fresh F1
 have hb1 : w1.heap[b1]? = some (.cells #[zI, zI, zS, zS, zI, zN, zN, zI, zS, zI, zN, zN, zI, zN, zI, zI, zS, zI, zN, zN, zI] 31) := F1.new
 replace hR := hR.freshF F1
 replace hB := Fr.below hR hB0 hB0.size hSge
 refine .ops0 (.thenN (.seq (.region (.move rfl rfl ?_))))
 have hml1 : MLt w1.heap.size [some b0, some b1] := (MLt.blk hb0 (MLt.blk hb1 (MLt.nil _)))
 refine At.callVF rfl hent rfl rfl (hsd wB b0 ts v _ hB hSge hts hb0 (hbig) (PR.sub hg (by (try simp only [manyP, SB]); repeat constructor))) (fun e wp1 hR' => ?_)
 obtain ⟨x1, us1, val1, vr1, hq1, rfl, hF1, hts1, hbo1, ho1⟩ := hR'
 refine ⟨_, rfl, ?_⟩
 replace hb1 := Fr.oldB hF1 hb1 (n_b0_b1.symm)
 replace hsg := OwnS.frB hsg hF1 hb0 rfl
 replace hb0 := hbo1
 have hsz1 := hR.size
 replace hR := Fr.then hR hF1 (fun k hk => .inl hk)
 obtain ⟨tm1, rfl, htm1, hmt1⟩ := ho1
 have hx1 := Xs.of_new (B := 0) (M := [some b0, some b1]) (K := kTm) htm1 (fun b hb => .inr (hmt1.blk b hb)) (fun _ _ => Nat.zero_le _) hml1
 replace hmt1 := hmt1.mono hsz1
 refine At.alloc ze31 rfl (fun b2 w2 F2 => ?_)
 have n_b0_b2 := F2.ne' hb0
 have n_b1_b2 := F2.ne' hb1
 have gb2 := F2.gq hR.size
 replace hb0 := F2.old hb0
 replace hb1 := F2.old hb1
 replace hsg := hsg.fresh F2
 replace hx1 := Xs.fresh hx1 F2
 have hb2 : w2.heap[b2]? = some (.cells #[zI, zI, zS, zS, zI, zN, zN, zI, zS, zI, zN, zN, zI, zN, zI, zI, zS, zI, zN, zN, zI] 31) := F2.new
 replace hR := hR.freshF F2
 refine At.storeAll rfl rfl hb2 (sz31.trans (congrArg some ((Xs.one hx1)).size.symm)) ((Xs.one hx1)).size.symm ((Xs.one hx1)).one (fun w3 S1 => ?_)
 replace hb0 := S1.other hb0 n_b0_b2
 replace hb1 := S1.other hb1 n_b1_b2
 replace hsg := hsg.set S1 (hsg.neT hb2 rfl)
 replace hx1 := Xs.set hx1 S1 (by simp)
 replace hb2 : w3.heap[b2]? = some (.cells tm1.cs 31) := S1.new
 replace hR := hR.setF S1 (.inr gb2)
 refine .ops0 (.thenN (.seq (.block ?_)))
 refine At.loop (List Tk × Value × Nat × Tm × ST) (fun (us, vr, f, tx, xs) => [(0, .pointer (some ⟨b0, 0, none⟩)), (1, .func (.func c) #[.pointer (some ⟨b0, 0, none⟩)] #[]), (2, vs), (6, .pointer (some ⟨b1, 0, none⟩)), (7, .pointer (some ⟨b2, 0, none⟩))]) (fun (us, vr, f, tx, xs) w4 => Fr (fun k => k = b0) w w4 ∧ w4.heap[b0]? = some (.cells #[vr, .int .i64 en, .int .i64 dp] 102) ∧ w4.heap[b1]? = some (.cells #[zI, zI, zS, zS, zI, zN, zN, zI, zS, zI, zN, zN, zI, zN, zI, zI, zS, zI, zN, zN, zI] 31) ∧ w4.heap[b2]? = some (.cells tx.cs 31) ∧ OwnS 9 w4 vs ss ∧ Xs kTm [some b0, some b1, some b2] w4 [tx] ∧ (RowsAt wB vr 4 (us.map Tk.cs)) ∧ (manyP en sd ss ts = manyL en sd ss f xs us) ∧ (us.length < f) ∧ (MT w xs tx) ∧ (us.length ≤ ts.length)) (fun (us, vr, f, tx, xs) => f) (us1, vr1, (us1.length + 1), tm1, x1) (sC rfl (sC rfl (sC rfl (sC rfl (sC rfl sN))))) ⟨hR, hb0, hb1, hb2, hsg, (Xs.weaken (M' := [some b0, some b1, some b2]) hx1 (SubM.cons (.tail _ (.head _)) (SubM.cons (.tail _ (.tail _ (.head _))) (SubM.cons (.head _) SubM.nil)))), (hts1), (by simp only [manyP, hq1, PR.bind_ok]), (Nat.lt_succ_self _), (hmt1), (Nat.le_of_lt (PR.Sh.of (hshd ts) hq1))⟩ (fun gh w4 hI => ?_)
 obtain ⟨us, vr, f, tx, xs⟩ := gh
 clear hR hB hb0 hb1 hb2 hsg hx1
 obtain ⟨hR, hb0, hb1, hb2, hsg, hxx, hus, hs, hfl, hmx, hle⟩ := hI
 have hB := Fr.below hR hB0 hB0.size hSge
 show At _ _ [(0, .pointer (some ⟨b0, 0, none⟩)), (1, .func (.func c) #[.pointer (some ⟨b0, 0, none⟩)] #[]), (2, vs), (6, .pointer (some ⟨b1, 0, none⟩)), (7, .pointer (some ⟨b2, 0, none⟩))] _ _
 refine .seq (.seq (.region (.move rfl rfl (.nilCheck rfl rfl (.fieldAddr rfl fo102_0 rfl (.move rfl rfl ?_))))))
 refine At.call en59 rfl rfl (is_any us vr vs ss _ ((hus).keep hB) hb0 (((hsg.strs).keep (Below.refl _ _)))) (fun e w5 hR' => ?_)
 obtain ⟨rfl, hbl1⟩ := hR'
 refine ⟨_, rfl, ?_⟩
 replace hb0 := Below.old hbl1 hb0
 replace hb1 := Below.old hbl1 hb1
 replace hb2 := Below.old hbl1 hb2
 replace hsg := hsg.below hbl1
 replace hxx := Xs.below hxx hbl1
 replace hR := hR.callF hbl1
 replace hB := Fr.below hR hB0 hB0.size hSge
 refine .ops0 (.thenN ?_)
 refine At.cond (b := (isK en us ss)) rfl (fun hc1 => ?_) (fun hc1 => ?_)
 ·skip
  refine .skip (.thenN (.block (.seq (.region (.move rfl rfl (.nilCheck rfl rfl (.fieldAddr rfl fo102_0 rfl ?_)))))))
  refine At.call en87 rfl rfl (ptake_any us vr _ hB hSge hus hb0 (is_len hc1)) (fun e wp2 hR' => ?_)
  obtain ⟨vr2, rfl, hts2, hbo2, hF2⟩ := hR'
  refine ⟨_, rfl, ?_⟩
  replace hb1 := Fr.oldB hF2 hb1 (n_b0_b1.symm)
  replace hb2 := Fr.oldB hF2 hb2 (n_b0_b2.symm)
  replace hsg := OwnS.frB hsg hF2 hb0 rfl
  replace hxx := Xs.frS hxx hF2 (by rintro k rfl; simp)
  replace hb0 := hbo2
  replace hR := Fr.then hR hF2 (fun k hk => .inl hk)
  replace hB := Fr.below hR hB0 hB0.size hSge
  refine .fieldC rfl ft141_1 ag9 (((tk_ok (nx en us))).c1) rfl (.assign rfl rfl (.ops0 (.thenN (.drawG (n := 6) mixed (by kernel_rfl) rfl (PanicOk.block (PanicOk.then (PanicOk.block (PanicOk.then PanicOk.body)))) ?_))))
  have hR := Fr.drewF hR
  have hB := Below.drewB hB
  have hb0 : _ := (show wp2.drew.heap[b0]? = _ from hb0)
  have hb1 : _ := (show wp2.drew.heap[b1]? = _ from hb1)
  have hb2 : _ := (show wp2.drew.heap[b2]? = _ from hb2)
  have hsg := hsg.drew
  have hxx := Xs.drew hxx
  refine .wpcS (i := 0) (d := 21) (.string (bs ((nx en us).t))) (by kernel_rfl) rfl rfl rfl (fun Lx => .move rfl rfl (.ops0 fun a ha => ⟨ha, rfl⟩)) ?_
  refine .wpcS (i := 1) (d := 22) (.agg tx.cs) (by kernel_rfl) rfl rfl rfl (fun Lx => .load rfl (Ld.own ag31 (sz31.trans (congrArg some ((Xs.one hxx)).size.symm)) hb2) rfl (.ops0 fun a ha => ⟨ha, rfl⟩)) ?_
  refine .wpcS (i := 2) (d := 23) (.func (.func c) #[.pointer (some ⟨b0, 0, none⟩)] #[]) (by kernel_rfl) rfl rfl rfl (fun Lx => .move rfl rfl (.ops0 fun a ha => ⟨ha, rfl⟩)) ?_
  refine At.wpcE [3] (by kernel_rfl) (by kernel_rfl) (.cons [0, 1] rfl (by kernel_rfl) ?_ .nil)
  have hml3 : MLt wp2.drew.heap.size [some b0, some b1, some b2] := (MLt.blk hb0 (MLt.blk hb1 (MLt.blk hb2 (MLt.nil _))))
  refine At.callVF rfl hent rfl rfl (hsd wB b0 us.tail vr2 _ hB hSge hts2 hb0 (by have hz := hbig; have := hle; have := tail_len (is_len hc1); omega) (PR.sub hg (by obtain ⟨q, rfl⟩ : ∃ q, f = q + 1 := ⟨f - 1, by omega⟩; rw [hs, manyL]; (try simp only [manyP, SB, hc1, hq1]); repeat constructor))) (fun e wp3 hR' => ?_)
  obtain ⟨x3, us3, val3, vr3, hq3, rfl, hF3, hts3, hbo3, ho3⟩ := hR'
  refine ⟨_, rfl, ?_⟩
  replace hb1 := Fr.oldB hF3 hb1 (n_b0_b1.symm)
  replace hb2 := Fr.oldB hF3 hb2 (n_b0_b2.symm)
  replace hsg := OwnS.frB hsg hF3 hb0 rfl
  replace hxx := Xs.frS hxx hF3 (by rintro k rfl; simp)
  replace hb0 := hbo3
  have hsz3 := hR.size
  replace hR := Fr.then hR hF3 (fun k hk => .inl hk)
  obtain ⟨tm3, rfl, htm3, hmt3⟩ := ho3
  have hx3 := Xs.of_new (B := 0) (M := [some b0, some b1, some b2]) (K := kTm) htm3 (fun b hb => .inr (hmt3.blk b hb)) (fun _ _ => Nat.zero_le _) hml3
  replace hmt3 := hmt3.mono hsz3
  refine .ops0 ?_
  refine At.wpcN (.cons rfl rfl rfl rfl (fun Lx => ?_) (.cons rfl rfl rfl rfl (fun Lx => ?_) .nil)) ?_
  ·skip
   exact .move rfl rfl (.ops0 fun a ha => ⟨ha, rfl⟩)
  ·skip
   exact .load rfl (Ld.own ag31 (sz31.trans (congrArg some ((Xs.one hxx)).size.symm)) hb2) rfl (.ops0 fun a ha => ⟨ha, rfl⟩)
  refine At.wpcE [4] (by kernel_rfl) (by kernel_rfl) (.cons [] rfl (by kernel_rfl) ?_ .nil)
  have hml4 : MLt wp3.heap.size [some b0, some b1, some b2] := (MLt.blk hb0 (MLt.blk hb1 (MLt.blk hb2 (MLt.nil _))))
  have hsz4 := hR.size
  refine At.call en104 rfl rfl (two_any (bs ((nx en us).t)) tx tm3 _ (Xs.one hxx) (Xs.one hx3)) (fun e wp4 hR' => ?_)
  obtain ⟨kv4, rfl, hbl4_, hrw4, hge4⟩ := hR'
  refine ⟨_, rfl, ?_⟩
  replace hb0 := Below.old hbl4_ hb0
  replace hb1 := Below.old hbl4_ hb1
  replace hb2 := Below.old hbl4_ hb2
  replace hsg := hsg.below hbl4_
  replace hxx := Xs.below hxx hbl4_
  replace hx3 := Xs.below hx3 hbl4_
  replace hR := hR.callF hbl4_
  have hx4 : Xs kTm [some b0, some b1, some b2] wp4 [(tmA 10 tx.at_ (bs ((nx en us).t)) E0B 0 kv4 [tx, tm3] zN [])] := Xs.mkT (Xs.cons (Xs.weaken (M' := [some b0, some b1, some b2]) hxx (SubM.cons (.head _) (SubM.cons (.tail _ (.head _)) (SubM.cons (.tail _ (.tail _ (.head _))) SubM.nil)))) (Xs.cons (Xs.weaken (M' := [some b0, some b1, some b2]) hx3 (SubM.cons (.head _) (SubM.cons (.tail _ (.head _)) (SubM.cons (.tail _ (.tail _ (.head _))) SubM.nil)))) (Xs.nil _ _ _))) (Xs.nil _ _ _) hrw4 (RowsAt.nil _ 23) (fun _ => notin_lt hml4 hge4) (fun h => absurd rfl h)
  have hmt4 : MT w (sTwo (bs ((nx en us).t)) xs x3) (tmA 10 tx.at_ (bs ((nx en us).t)) E0B 0 kv4 [tx, tm3] zN []) := MT.atEq (MT.made (MTL.two hmx hmt3) (MAL.nil w) (fun _ => Nat.le_trans hsz4 hge4) (fun h => absurd rfl h)) (shT_at hmx)
  refine .ops0 (.wpcN .nil ?_)
  refine At.wpcE [5] (by kernel_rfl) (by kernel_rfl) (.cons [] rfl (by kernel_rfl) ?_ .nil)
  refine At.storeAll rfl rfl hb2 (sz31.trans (congrArg some ((Xs.one hx4)).size.symm)) (((Xs.one hxx)).size.trans ((Xs.one hx4)).size.symm) ((Xs.one hx4)).one (fun w6 S2 => ?_)
  replace hb0 := S2.other hb0 n_b0_b2
  replace hb1 := S2.other hb1 n_b1_b2
  replace hsg := hsg.set S2 (hsg.neT hb2 rfl)
  replace hxx := Xs.set hxx S2 (by simp)
  replace hx3 := Xs.set hx3 S2 (by simp)
  replace hx4 := Xs.set hx4 S2 (by simp)
  replace hb2 : w6.heap[b2]? = some (.cells (tmA 10 tx.at_ (bs ((nx en us).t)) E0B 0 kv4 [tx, tm3] zN []).cs 31) := S2.new
  replace hR := hR.setF S2 (.inr gb2)
  refine .ops0 (.wpcN .nil (.wpcZ (.inN (.thenN ?_))))
  exact fun act_ hact_ => ⟨(us3, vr3, (f - 1), (tmA 10 tx.at_ (bs ((nx en us).t)) E0B 0 kv4 [tx, tm3] zN []), (sTwo (bs ((nx en us).t)) xs x3)), hact_.sub (sC rfl (sC rfl (sC rfl (sC rfl (sC rfl sN))))), ⟨hR, hb0, hb1, hb2, hsg, (Xs.weaken (M' := [some b0, some b1, some b2]) hx4 (SubM.cons (.head _) (SubM.cons (.tail _ (.head _)) (SubM.cons (.tail _ (.tail _ (.head _))) SubM.nil)))), (hts3), (by obtain ⟨q, rfl⟩ : ∃ q, f = q + 1 := ⟨f - 1, by omega⟩; rw [hs, manyL]; simp only [hc1, hq1, hq3, cond_true, PR.bind_ok]; rfl), (by have := hle; have := tail_len (is_len hc1); have := PR.Sh.of (hshd us.tail) hq3; omega), (hmt4), (by have := hle; have := tail_len (is_len hc1); have := PR.Sh.of (hshd us.tail) hq3; omega)⟩, by first | omega | (dsimp only; omega)⟩
 refine .exit (.thenE (.thenE (.inE (.thenN (.seq (.region (.load rfl (Ld.own ag31 (sz31.trans (congrArg some ((Xs.one hxx)).size.symm)) hb2) rfl ?_)))))))
 refine At.storeAll rfl rfl hb1 (sz31.trans (congrArg some ((Xs.one hxx)).size.symm)) ((Xs.one hxx)).size.symm ((Xs.one hxx)).one (fun w7 S3 => ?_)
 replace hb0 := S3.other hb0 n_b0_b1
 replace hxx := Xs.set hxx S3 (by simp)
 replace hb1 : w7.heap[b1]? = some (.cells tx.cs 31) := S3.new
 replace hR := hR.setF S3 (.inr gb1)
 refine .ops0 (.thenN (.retc (.doneR (ResV.cell rfl (Ld.own ag31 (sz31.trans (congrArg some ((Xs.one hxx)).size.symm)) hb1) ResV.nil) ?_)))
 exact RetP.ok (x := xs) (by obtain ⟨q, rfl⟩ : ∃ q, f = q + 1 := ⟨f - 1, by omega⟩; rw [hs, manyL]; simp only [manyP, SB, hc1, hq1] <;> rfl) hR hus hb0 ⟨tx, rfl, (Xs.one hxx), hmx⟩
theorem body_any {wB : World} {b0 : Nat} {en dp : Int} (ts : List Tk) (v : Value) (ex : List Tk → PR ST) (w : World) (hB0 : Below wB.heap.size wB w) (hSge : ∀ k, k = b0 → wB.heap.size ≤ k) (hts : RowsAt wB v 4 (ts.map Tk.cs)) (hb0 : w.heap[b0]? = some (.cells #[v, .int .i64 en, .int .i64 dp] 102)) (hbig : ts.length ≤ 100000000) (hxs : ∀ ts, (ex ts).Sh ts.length) (hex : ExC en dp ex) (hg : (bodyP en ex ts).isOk = true) :
  Calls Tryz.prog 98 ([.pointer (some ⟨b0, 0, none⟩)] : List Value).toArray w fun e w' => RetP (fun k => k = b0) wB b0 en dp (okT w) (bodyP en ex ts) w e w' := by
 have htl := hts.lenL
 have hR := Fr.refl (fun k => k = b0) w
 refine At.enter (N := 8) Tryz.func98 rfl rfl (by simp) [(0, .pointer (some ⟨b0, 0, none⟩))] (by simp) ?_
 refine .seq (.region ?_)
 refine At.alloc ze31 rfl (fun b1 w1 F1 => ?_)
 have n_b0_b1 := F1.ne' hb0
 have gb1 := F1.gq hR.size
 replace hb0 := F1.old hb0
 have hb1 : w1.heap[b1]? = some (.cells #[zI, zI, zS, zS, zI, zN, zN, zI, zS, zI, zN, zN, zI, zN, zI, zI, zS, zI, zN, zN, zI] 31) := F1.new
 replace hR := hR.freshF F1
 refine .ops0 (.thenN (.seq (.region (.move rfl rfl ?_))))
 refine At.buildSlice (xs := [.const (.string (⟨#[45, 62]⟩ : ByteArray))]) rfl rfl el25 sz9 ze9 (by intro v hv; simp only [List.mem_cons, List.not_mem_nil, or_false] at hv; rcases hv with rfl <;> first | rfl | simp [Value.cells]) rfl (by decide) rfl (fun b2 w2 F2 => ?_)
 have n_b0_b2 := F2.ne' hb0
 replace hb0 := F2.old hb0
 replace hb1 := F2.old hb1
 have hb2 : w2.heap[b2]? = some (.cells #[.string (⟨#[45, 62]⟩ : ByteArray)] 9) := F2.new
 replace hR := hR.freshF F2
 replace hB := Fr.below hR hB0 hB0.size hSge
 refine At.call en78 rfl rfl (ptext_any ts v (.slice (some ⟨b2, 0, none⟩) 1 1) ([(⟨#[45, 62]⟩ : ByteArray)]) _ hB hSge hts hb0 ((StrsAt.own (ss := [(⟨#[45, 62]⟩ : ByteArray)]) hb2 rfl (by decide) : StrsAt _ (.slice (some ⟨b2, 0, none⟩) 1 1) [(⟨#[45, 62]⟩ : ByteArray)])) (fun _ => show b2 ≠ b0 from n_b0_b2.symm) (PR.sub hg (by (try simp only [bodyP, SB]); repeat constructor))) (fun e wp1 hR' => ?_)
 obtain ⟨x1, us1, val1, vr1, hq1, rfl, hF1, hts1, hbo1, ho1⟩ := hR'
 refine ⟨_, rfl, ?_⟩
 replace hb1 := Fr.oldB hF1 hb1 (n_b0_b1.symm)
 replace hb2 := Fr.oldB hF1 hb2 (n_b0_b2.symm)
 replace hb0 := hbo1
 have hsz1 := hR.size
 replace hR := Fr.then hR hF1 (fun k hk => .inl hk)
 replace hB := Fr.below hR hB0 hB0.size hSge
 obtain rfl := ho1
 refine .ops0 (.thenN (.seq (.region (.move rfl rfl ?_))))
 have hml2 : MLt wp1.heap.size [some b0, some b1, some b2] := (MLt.blk hb0 (MLt.blk hb1 (MLt.blk hb2 (MLt.nil _))))
 refine At.call en62 rfl rfl (hex wB b0 us1 vr1 _ hB hSge hts1 hb0 (by have hz := hbig; have := PR.Le.of (text_le en ([(⟨#[45, 62]⟩ : ByteArray)]) ts) hq1; omega) (PR.sub hg (by (try simp only [bodyP, SB, hq1]); repeat constructor))) (fun e wp2 hR' => ?_)
 obtain ⟨x2, us2, val2, vr2, hq2, rfl, hF2, hts2, hbo2, ho2⟩ := hR'
 refine ⟨_, rfl, ?_⟩
 replace hb1 := Fr.oldB hF2 hb1 (n_b0_b1.symm)
 replace hb0 := hbo2
 have hsz2 := hR.size
 replace hR := Fr.then hR hF2 (fun k hk => .inl hk)
 obtain ⟨tm2, rfl, htm2, hmt2⟩ := ho2
 have hx2 := Xs.of_new (B := 0) (M := [some b0, some b1, some b2]) (K := kTm) htm2 (fun b hb => .inr (hmt2.blk b hb)) (fun _ _ => Nat.zero_le _) hml2
 replace hmt2 := hmt2.mono hsz2
 refine At.storeAll rfl rfl hb1 (sz31.trans (congrArg some ((Xs.one hx2)).size.symm)) ((Xs.one hx2)).size.symm ((Xs.one hx2)).one (fun w3 S1 => ?_)
 replace hb0 := S1.other hb0 n_b0_b1
 replace hx2 := Xs.set hx2 S1 (by simp)
 replace hb1 : w3.heap[b1]? = some (.cells tm2.cs 31) := S1.new
 replace hR := hR.setF S1 (.inr gb1)
 refine .ops0 (.thenN (.retc (.doneR (ResV.cell rfl (Ld.own ag31 (sz31.trans (congrArg some ((Xs.one hx2)).size.symm)) hb1) ResV.nil) ?_)))
 exact RetP.ok (x := x2) (by simp only [bodyP, SB, hq1, hq2] <;> rfl) hR hts2 hb0 ⟨tm2, rfl, (Xs.one hx2), hmt2⟩
theorem clause_any {wB : World} {b0 : Nat} {en dp : Int} (ts : List Tk) (v : Value) (ex : List Tk → PR ST) (first : Bool) (w : World) (hB0 : Below wB.heap.size wB w) (hSge : ∀ k, k = b0 → wB.heap.size ≤ k) (hts : RowsAt wB v 4 (ts.map Tk.cs)) (hb0 : w.heap[b0]? = some (.cells #[v, .int .i64 en, .int .i64 dp] 102)) (hbig : ts.length ≤ 100000000) (hxs : ∀ ts, (ex ts).Sh ts.length) (hex : ExC en dp ex) (hg : (clauseP en ex first ts).isOk = true) :
  Calls Tryz.prog 91 ([.pointer (some ⟨b0, 0, none⟩), .bool first] : List Value).toArray w fun e w' => RetP (fun k => k = b0) wB b0 en dp (okA w) (clauseP en ex first ts) w e w' := by
 have htl := hts.lenL
 have hR := Fr.refl (fun k => k = b0) w
 refine At.enter (N := 24) Tryz.func91 rfl rfl (by simp) [(0, .pointer (some ⟨b0, 0, none⟩)), (1, .bool first)] (by simp) ?_
 refine .seq (.region ?_)
 refine At.alloc ze40 rfl (fun b1 w1 F1 => ?_)
 have n_b0_b1 := F1.ne' hb0
 have gb1 := F1.gq hR.size
 replace hb0 := F1.old hb0
 have hb1 : w1.heap[b1]? = some (.cells #[zS, zN, zI, zI, zS, zS, zI, zN, zN, zI, zS, zI, zN, zN, zI, zN, zI, zI, zS, zI, zN, zN, zI] 40) := F1.new
 replace hR := hR.freshF F1
 replace hB := Fr.below hR hB0 hB0.size hSge
 refine .ops0 (.thenN (.seq (.seq (.region (.move rfl rfl (.ops0 (.thenN ?_)))))))
 refine At.cond (b := first) rfl (fun hc1 => ?_) (fun hc1 => ?_)
 ·skip
  refine .seq (.region (.move rfl rfl ?_))
  refine At.buildSlice (xs := [.const (.string (⟨#[114, 101, 116, 117, 114, 110]⟩ : ByteArray))]) rfl rfl el25 sz9 ze9 (by intro v hv; simp only [List.mem_cons, List.not_mem_nil, or_false] at hv; rcases hv with rfl <;> first | rfl | simp [Value.cells]) rfl (by decide) rfl (fun b2 w2 F2 => ?_)
  have n_b0_b2 := F2.ne' hb0
  have n_b1_b2 := F2.ne' hb1
  replace hb0 := F2.old hb0
  replace hb1 := F2.old hb1
  have hb2 : w2.heap[b2]? = some (.cells #[.string (⟨#[114, 101, 116, 117, 114, 110]⟩ : ByteArray)] 9) := F2.new
  replace hR := hR.freshF F2
  replace hB := Fr.below hR hB0 hB0.size hSge
  refine At.call en78 rfl rfl (ptext_any ts v (.slice (some ⟨b2, 0, none⟩) 1 1) ([(⟨#[114, 101, 116, 117, 114, 110]⟩ : ByteArray)]) _ hB hSge hts hb0 ((StrsAt.own (ss := [(⟨#[114, 101, 116, 117, 114, 110]⟩ : ByteArray)]) hb2 rfl (by decide) : StrsAt _ (.slice (some ⟨b2, 0, none⟩) 1 1) [(⟨#[114, 101, 116, 117, 114, 110]⟩ : ByteArray)])) (fun _ => show b2 ≠ b0 from n_b0_b2.symm) (PR.sub hg (by (try simp only [clauseP, SB, hc1]); repeat constructor))) (fun e wp1 hR' => ?_)
  obtain ⟨x1, us1, val1, vr1, hq1, rfl, hF1, hts1, hbo1, ho1⟩ := hR'
  refine ⟨_, rfl, ?_⟩
  replace hb1 := Fr.oldB hF1 hb1 (n_b0_b1.symm)
  replace hb2 := Fr.oldB hF1 hb2 (n_b0_b2.symm)
  replace hb0 := hbo1
  have hsz1 := hR.size
  replace hR := Fr.then hR hF1 (fun k hk => .inl hk)
  replace hB := Fr.below hR hB0 hB0.size hSge
  obtain rfl := ho1
  refine .ops0 (.thenN (.region (.move rfl rfl ?_)))
  refine At.call en88 rfl rfl (names_any us1 vr1 1 _ hB hSge hts1 hb0 (by decide) (PR.sub hg (by (try simp only [clauseP, SB, hc1, hq1]); repeat constructor))) (fun e wp2 hR' => ?_)
  obtain ⟨x2, us2, val2, vr2, hq2, rfl, hF2, hts2, hbo2, ho2⟩ := hR'
  refine ⟨_, rfl, ?_⟩
  replace hb1 := Fr.oldB hF2 hb1 (n_b0_b1.symm)
  replace hb2 := Fr.oldB hF2 hb2 (n_b0_b2.symm)
  replace hb0 := hbo2
  have hsz2 := hR.size
  replace hR := Fr.then hR hF2 (fun k hk => .inl hk)
  obtain ⟨hO_2, gO_2⟩ := ho2
  replace gO_2 : ∀ g, Value.ownBlock val2 = some g → w.heap.size ≤ g := fun g hg => Nat.le_trans hsz2 (gO_2 g hg)
  refine .fieldAddr rfl fo40_0 rfl ?_
  refine At.store1 rfl rfl hb1 sz9 (by simp) rfl (fun w3 S1 => ?_)
  replace hb0 := S1.other hb0 n_b0_b1
  replace hb2 := S1.other hb2 n_b1_b2.symm
  replace hO_2 := hO_2.set S1 (hO_2.neT hb1 rfl)
  replace hb1 : w3.heap[b1]? = some (.cells #[.string (⟨#[114, 101, 116, 117, 114, 110]⟩ : ByteArray), zN, zI, zI, zS, zS, zI, zN, zN, zI, zS, zI, zN, zN, zI, zN, zI, zI, zS, zI, zN, zN, zI] 40) := S1.new
  replace hR := hR.setF S1 (.inr gb1)
  refine .fieldAddr rfl fo40_1 rfl ?_
  refine At.store1 rfl rfl hb1 sz25 (by simp) ((hO_2.strs).ok).one (fun w4 S2 => ?_)
  replace hb0 := S2.other hb0 n_b0_b1
  replace hb2 := S2.other hb2 n_b1_b2.symm
  replace hO_2 := hO_2.set S2 (hO_2.neT hb1 rfl)
  replace hb1 : w4.heap[b1]? = some (.cells #[.string (⟨#[114, 101, 116, 117, 114, 110]⟩ : ByteArray), val2, zI, zI, zS, zS, zI, zN, zN, zI, zS, zI, zN, zN, zI, zN, zI, zI, zS, zI, zN, zN, zI] 40) := S2.new
  replace hR := hR.setF S2 (.inr gb1)
  replace hB := Fr.below hR hB0 hB0.size hSge
  refine .ops0 (.thenN (.seq (.region (.move rfl rfl ?_))))
  have hml3 : MLt w4.heap.size [some b0, some b1, some b2, Value.ownBlock val2] := (MLt.blk hb0 (MLt.blk hb1 (MLt.blk hb2 (MLt.own hO_2 (MLt.nil _)))))
  refine At.call en98 rfl rfl (body_any us2 vr2 ex  _ hB hSge hts2 hb0 (by have hz := hbig; have := PR.Le.of (text_le en ([(⟨#[114, 101, 116, 117, 114, 110]⟩ : ByteArray)]) ts) hq1; have := PR.Le.of (names_le en 1 [] us1) hq2; omega) hxs hex (PR.sub hg (by (try simp only [clauseP, SB, hc1, hq1, hq2]); repeat constructor))) (fun e wp3 hR' => ?_)
  obtain ⟨x3, us3, val3, vr3, hq3, rfl, hF3, hts3, hbo3, ho3⟩ := hR'
  refine ⟨_, rfl, ?_⟩
  replace hb1 := Fr.oldB hF3 hb1 (n_b0_b1.symm)
  replace hO_2 := OwnS.frB hO_2 hF3 hb0 rfl
  replace hb0 := hbo3
  have hsz3 := hR.size
  replace hR := Fr.then hR hF3 (fun k hk => .inl hk)
  obtain ⟨tm3, rfl, htm3, hmt3⟩ := ho3
  have hx3 := Xs.of_new (B := 0) (M := [some b0, some b1, some b2, Value.ownBlock val2]) (K := kTm) htm3 (fun b hb => .inr (hmt3.blk b hb)) (fun _ _ => Nat.zero_le _) hml3
  replace hmt3 := hmt3.mono hsz3
  refine .fieldAddr rfl fo40_2 rfl ?_
  have hsp1 : splice #[.string (⟨#[114, 101, 116, 117, 114, 110]⟩ : ByteArray), val2, zI, zI, zS, zS, zI, zN, zN, zI, zS, zI, zN, zN, zI, zN, zI, zI, zS, zI, zN, zN, zI] 2 tm3.cs = (amA (⟨#[114, 101, 116, 117, 114, 110]⟩ : ByteArray) val2 x2 tm3).cs := splice_arm rfl ((Xs.one hx3)).size rfl rfl
  refine At.storePart (cs := tm3.cs) rfl rfl hb1 (sz31.trans (congrArg some ((Xs.one hx3)).size.symm)) (by rw [((Xs.one hx3)).size]; first | decide | exact Nat.le_of_ble_eq_true rfl) ((Xs.one hx3)).one (fun w5 S3 => ?_)
  replace hb0 := S3.other hb0 n_b0_b1
  replace hO_2 := hO_2.set S3 (hO_2.neT hb1 rfl)
  replace hx3 := Xs.set hx3 S3 (by simp)
  replace hb1 : w5.heap[b1]? = some (.cells (amA (⟨#[114, 101, 116, 117, 114, 110]⟩ : ByteArray) val2 x2 tm3).cs 40) := (by have q := S3.new; rw [hsp1] at q; exact q)
  replace hR := hR.setF S3 (.inr gb1)
  refine .ops0 (.thenN (.seq (.region (.load rfl (Ld.own ag40 (sz40.trans (congrArg some ((amA_ok (hO_2).strs (Xs.one hx3))).size.symm)) hb1) rfl ?_))))
  refine At.storeAll rfl rfl hb1 (sz40.trans (congrArg some ((amA_ok (hO_2).strs (Xs.one hx3))).size.symm)) (((amA_ok (hO_2).strs (Xs.one hx3))).size.trans ((amA_ok (hO_2).strs (Xs.one hx3))).size.symm) ((amA_ok (hO_2).strs (Xs.one hx3))).one (fun w6 S4 => ?_)
  replace hb0 := S4.other hb0 n_b0_b1
  replace hO_2 := hO_2.set S4 (hO_2.neT hb1 rfl)
  replace hx3 := Xs.set hx3 S4 (by simp)
  replace hb1 : w6.heap[b1]? = some (.cells (amA (⟨#[114, 101, 116, 117, 114, 110]⟩ : ByteArray) val2 x2 tm3).cs 40) := S4.new
  replace hR := hR.setF S4 (.inr gb1)
  refine .ops0 (.thenN (.retc (.doneR (ResV.cell rfl (Ld.own ag40 (sz40.trans (congrArg some ((amA_ok (hO_2).strs (Xs.one hx3))).size.symm)) hb1) ResV.nil) ?_)))
  exact RetP.ok (x := (SA.mk (⟨#[114, 101, 116, 117, 114, 110]⟩ : ByteArray) x2 x3)) (by simp only [clauseP, SB, hc1, hq1, hq2, hq3] <;> rfl) hR hts3 hb0 ⟨(amA (⟨#[114, 101, 116, 117, 114, 110]⟩ : ByteArray) val2 x2 tm3), rfl, (amA_ok (hO_2).strs (Xs.one hx3)), (MA.made hmt3 (fun hn => OwnS.vbGe hO_2 gO_2 hn))⟩
 refine .region (.move rfl rfl ?_)
 refine At.call en79 rfl rfl (word_any ts v 2 _ hB hSge hts hb0 (by decide) (PR.sub hg (by (try simp only [clauseP, SB, hc1]); repeat constructor))) (fun e wp4 hR' => ?_)
 obtain ⟨x4, us4, val4, vr4, hq4, rfl, hF4, hts4, hbo4, ho4⟩ := hR'
 refine ⟨_, rfl, ?_⟩
 replace hb1 := Fr.oldB hF4 hb1 (n_b0_b1.symm)
 replace hb0 := hbo4
 have hsz4 := hR.size
 replace hR := Fr.then hR hF4 (fun k hk => .inl hk)
 replace hB := Fr.below hR hB0 hB0.size hSge
 obtain rfl := ho4
 refine .fieldC rfl ft141_1 ag9 (((tk_ok x4)).c1) rfl (.move rfl rfl ?_)
 refine At.call en88 rfl rfl (names_any us4 vr4 2 _ hB hSge hts4 hb0 (by decide) (PR.sub hg (by (try simp only [clauseP, SB, hc1, hq4]); repeat constructor))) (fun e wp5 hR' => ?_)
 obtain ⟨x5, us5, val5, vr5, hq5, rfl, hF5, hts5, hbo5, ho5⟩ := hR'
 refine ⟨_, rfl, ?_⟩
 replace hb1 := Fr.oldB hF5 hb1 (n_b0_b1.symm)
 replace hb0 := hbo5
 have hsz5 := hR.size
 replace hR := Fr.then hR hF5 (fun k hk => .inl hk)
 obtain ⟨hO_5, gO_5⟩ := ho5
 replace gO_5 : ∀ g, Value.ownBlock val5 = some g → w.heap.size ≤ g := fun g hg => Nat.le_trans hsz5 (gO_5 g hg)
 refine .fieldAddr rfl fo40_0 rfl ?_
 refine At.store1 rfl rfl hb1 sz9 (by simp) rfl (fun w7 S5 => ?_)
 replace hb0 := S5.other hb0 n_b0_b1
 replace hO_5 := hO_5.set S5 (hO_5.neT hb1 rfl)
 replace hb1 : w7.heap[b1]? = some (.cells #[.string (bs x4.t), zN, zI, zI, zS, zS, zI, zN, zN, zI, zS, zI, zN, zN, zI, zN, zI, zI, zS, zI, zN, zN, zI] 40) := S5.new
 replace hR := hR.setF S5 (.inr gb1)
 refine .fieldAddr rfl fo40_1 rfl ?_
 refine At.store1 rfl rfl hb1 sz25 (by simp) ((hO_5.strs).ok).one (fun w8 S6 => ?_)
 replace hb0 := S6.other hb0 n_b0_b1
 replace hO_5 := hO_5.set S6 (hO_5.neT hb1 rfl)
 replace hb1 : w8.heap[b1]? = some (.cells #[.string (bs x4.t), val5, zI, zI, zS, zS, zI, zN, zN, zI, zS, zI, zN, zN, zI, zN, zI, zI, zS, zI, zN, zN, zI] 40) := S6.new
 replace hR := hR.setF S6 (.inr gb1)
 replace hB := Fr.below hR hB0 hB0.size hSge
 refine .ops0 (.thenN (.seq (.region (.move rfl rfl ?_))))
 have hml6 : MLt w8.heap.size [some b0, some b1, Value.ownBlock val5] := (MLt.blk hb0 (MLt.blk hb1 (MLt.own hO_5 (MLt.nil _))))
 refine At.call en98 rfl rfl (body_any us5 vr5 ex  _ hB hSge hts5 hb0 (by have hz := hbig; have := PR.Sh.of (word_sh en 2 (by decide) ts) hq4; have := PR.Le.of (names_le en 2 [] us4) hq5; omega) hxs hex (PR.sub hg (by (try simp only [clauseP, SB, hc1, hq4, hq5]); repeat constructor))) (fun e wp6 hR' => ?_)
 obtain ⟨x6, us6, val6, vr6, hq6, rfl, hF6, hts6, hbo6, ho6⟩ := hR'
 refine ⟨_, rfl, ?_⟩
 replace hb1 := Fr.oldB hF6 hb1 (n_b0_b1.symm)
 replace hO_5 := OwnS.frB hO_5 hF6 hb0 rfl
 replace hb0 := hbo6
 have hsz6 := hR.size
 replace hR := Fr.then hR hF6 (fun k hk => .inl hk)
 obtain ⟨tm6, rfl, htm6, hmt6⟩ := ho6
 have hx6 := Xs.of_new (B := 0) (M := [some b0, some b1, Value.ownBlock val5]) (K := kTm) htm6 (fun b hb => .inr (hmt6.blk b hb)) (fun _ _ => Nat.zero_le _) hml6
 replace hmt6 := hmt6.mono hsz6
 refine .fieldAddr rfl fo40_2 rfl ?_
 have hsp2 : splice #[.string (bs x4.t), val5, zI, zI, zS, zS, zI, zN, zN, zI, zS, zI, zN, zN, zI, zN, zI, zI, zS, zI, zN, zN, zI] 2 tm6.cs = (amA (bs x4.t) val5 x5 tm6).cs := splice_arm rfl ((Xs.one hx6)).size rfl rfl
 refine At.storePart (cs := tm6.cs) rfl rfl hb1 (sz31.trans (congrArg some ((Xs.one hx6)).size.symm)) (by rw [((Xs.one hx6)).size]; first | decide | exact Nat.le_of_ble_eq_true rfl) ((Xs.one hx6)).one (fun w9 S7 => ?_)
 replace hb0 := S7.other hb0 n_b0_b1
 replace hO_5 := hO_5.set S7 (hO_5.neT hb1 rfl)
 replace hx6 := Xs.set hx6 S7 (by simp)
 replace hb1 : w9.heap[b1]? = some (.cells (amA (bs x4.t) val5 x5 tm6).cs 40) := (by have q := S7.new; rw [hsp2] at q; exact q)
 replace hR := hR.setF S7 (.inr gb1)
 refine .ops0 (.thenN (.seq (.region (.load rfl (Ld.own ag40 (sz40.trans (congrArg some ((amA_ok (hO_5).strs (Xs.one hx6))).size.symm)) hb1) rfl ?_))))
 refine At.storeAll rfl rfl hb1 (sz40.trans (congrArg some ((amA_ok (hO_5).strs (Xs.one hx6))).size.symm)) (((amA_ok (hO_5).strs (Xs.one hx6))).size.trans ((amA_ok (hO_5).strs (Xs.one hx6))).size.symm) ((amA_ok (hO_5).strs (Xs.one hx6))).one (fun w10 S8 => ?_)
 replace hb0 := S8.other hb0 n_b0_b1
 replace hO_5 := hO_5.set S8 (hO_5.neT hb1 rfl)
 replace hx6 := Xs.set hx6 S8 (by simp)
 replace hb1 : w10.heap[b1]? = some (.cells (amA (bs x4.t) val5 x5 tm6).cs 40) := S8.new
 replace hR := hR.setF S8 (.inr gb1)
 refine .ops0 (.thenN (.retc (.doneR (ResV.cell rfl (Ld.own ag40 (sz40.trans (congrArg some ((amA_ok (hO_5).strs (Xs.one hx6))).size.symm)) hb1) ResV.nil) ?_)))
 exact RetP.ok (x := (SA.mk (bs x4.t) x5 x6)) (by simp only [clauseP, SB, hc1, hq4, hq5, hq6] <;> rfl) hR hts6 hb0 ⟨(amA (bs x4.t) val5 x5 tm6), rfl, (amA_ok (hO_5).strs (Xs.one hx6)), (MA.made hmt6 (fun hn => OwnS.vbGe hO_5 gO_5 hn))⟩
theorem ag98 : aggB Tryz.prog 98 = some false := by kernel_rfl
theorem en115 : entB Tryz.prog 115 = true := by kernel_rfl
theorem fo31_4 : fieldB Tryz.prog 31 4 = some (4, 1) := by kernel_rfl
theorem ft141_2 : fieldTB Tryz.prog 141 2 = some (2, 3) := by kernel_rfl
theorem atom_any {wB : World} {b0 : Nat} {en dp : Int} (ts : List Tk) (v : Value) (ex : List Tk → PR ST) (w : World) (hB0 : Below wB.heap.size wB w) (hSge : ∀ k, k = b0 → wB.heap.size ≤ k) (hts : RowsAt wB v 4 (ts.map Tk.cs)) (hb0 : w.heap[b0]? = some (.cells #[v, .int .i64 en, .int .i64 dp] 102)) (hbig : ts.length ≤ 100000000) (hxs : ∀ ts, (ex ts).Sh ts.length) (hex : ExC en dp ex) (hg : (atomP en ex ts).isOk = true) :
  Calls Tryz.prog 115 ([.pointer (some ⟨b0, 0, none⟩)] : List Value).toArray w fun e w' => RetP (fun k => k = b0) wB b0 en dp (okT w) (atomP en ex ts) w e w' := by
 have htl := hts.lenL
 have hR := Fr.refl (fun k => k = b0) w
 refine At.enter (N := 113) Tryz.func115 rfl rfl (by simp) [(0, .pointer (some ⟨b0, 0, none⟩))] (by simp) ?_
 refine .seq (.region ?_)
 refine At.box rfl rfl (fun b1 w1 F1 => ?_)
 have n_b0_b1 := F1.ne' hb0
 replace hb0 := F1.old hb0
 have hb1 : w1.heap[b1]? = some (.cells #[.pointer (some ⟨b0, 0, none⟩)] 98) := F1.new
 replace hR := hR.freshF F1
 refine At.alloc ze31 rfl (fun b2 w2 F2 => ?_)
 have n_b0_b2 := F2.ne' hb0
 have gb2 := F2.gq hR.size
 replace hb0 := F2.old hb0
 replace hb1 := F2.old hb1
 have hb2 : w2.heap[b2]? = some (.cells #[zI, zI, zS, zS, zI, zN, zN, zI, zS, zI, zN, zN, zI, zN, zI, zI, zS, zI, zN, zN, zI] 31) := F2.new
 replace hR := hR.freshF F2
 replace hB := Fr.below hR hB0 hB0.size hSge
 refine .ops0 (.thenN (.seq (.region (.load rfl (Ld.ownCell ag98 hb1 rfl) rfl (.nilCheck rfl rfl (.fieldAddr rfl fo102_0 rfl ?_))))))
 refine At.call en76 rfl rfl (next_any ts v _ ((hts).keep hB) hb0) (fun e w3 hR' => ?_)
 obtain ⟨rfl, hbl1⟩ := hR'
 refine ⟨_, rfl, ?_⟩
 replace hb0 := Below.old hbl1 hb0
 replace hb1 := Below.old hbl1 hb1
 replace hb2 := Below.old hbl1 hb2
 replace hR := hR.callF hbl1
 refine At.alloc ze141 rfl (fun b3 w4 F3 => ?_)
 have n_b0_b3 := F3.ne' hb0
 have n_b1_b3 := F3.ne' hb1
 have n_b2_b3 := F3.ne' hb2
 have gb3 := F3.gq hR.size
 replace hb0 := F3.old hb0
 replace hb1 := F3.old hb1
 replace hb2 := F3.old hb2
 have hb3 : w4.heap[b3]? = some (.cells #[zI, zS, zI, zI] 141) := F3.new
 replace hR := hR.freshF F3
 refine At.storeAll rfl rfl hb3 (sz141.trans (congrArg some ((tk_ok (nx en ts))).size.symm)) ((tk_ok (nx en ts))).size.symm ((tk_ok (nx en ts))).one (fun w5 S1 => ?_)
 replace hb0 := S1.other hb0 n_b0_b3
 replace hb1 := S1.other hb1 n_b1_b3
 replace hb2 := S1.other hb2 n_b2_b3
 replace hb3 : w5.heap[b3]? = some (.cells (nx en ts).cs 141) := S1.new
 replace hR := hR.setF S1 (.inr gb3)
 refine .ops0 (.thenN (.seq (.region (.fieldAddr rfl fo141_3 rfl (.load rfl (Ld.ownCell ag3 hb3 ((tk_ok (nx en ts))).c3) rfl (.build (C := #[zI, .int .i64 ((nx en ts).a), zS, zS, zI, zN, zN, zI, zS, zI, zN, zN, zI, zN, zI, zI, zS, zI, zN, zN, zI]) sd31 ze31 rfl (Bld.cons fo31_1 rfl (lB rfl) (Bld.nil _)) rfl ?_))))))
 refine At.alloc ze31 rfl (fun b4 w6 F4 => ?_)
 have n_b0_b4 := F4.ne' hb0
 have n_b1_b4 := F4.ne' hb1
 have n_b2_b4 := F4.ne' hb2
 have n_b3_b4 := F4.ne' hb3
 have gb4 := F4.gq hR.size
 replace hb0 := F4.old hb0
 replace hb1 := F4.old hb1
 replace hb2 := F4.old hb2
 replace hb3 := F4.old hb3
 have hb4 : w6.heap[b4]? = some (.cells #[zI, zI, zS, zS, zI, zN, zN, zI, zS, zI, zN, zN, zI, zN, zI, zI, zS, zI, zN, zN, zI] 31) := F4.new
 replace hR := hR.freshF F4
 refine At.storeAll rfl rfl hb4 sz31 rfl (by first | (simp [Value.oneCell', ((SlOk.nil)).one]; done) | (simp only [List.all_toArray, List.all_cons, List.all_nil, ((SlOk.nil)).one, Bool.and_true, Bool.true_and] <;> rfl)) (fun w7 S2 => ?_)
 replace hb0 := S2.other hb0 n_b0_b4
 replace hb1 := S2.other hb1 n_b1_b4
 replace hb2 := S2.other hb2 n_b2_b4
 replace hb3 := S2.other hb3 n_b3_b4
 replace hb4 : w7.heap[b4]? = some (.cells #[zI, .int .i64 ((nx en ts).a), zS, zS, zI, zN, zN, zI, zS, zI, zN, zN, zI, zN, zI, zI, zS, zI, zN, zN, zI] 31) := S2.new
 replace hR := hR.setF S2 (.inr gb4)
 refine .ops0 (.thenN (.seq (.block (.seq (.region (.load rfl (Ld.ownCell ag98 hb1 rfl) rfl (.nilCheck rfl rfl (.fieldAddr rfl fo102_0 rfl ?_))))))))
 refine At.buildSlice (xs := [.const (.int .i64 1)]) rfl rfl el32 sz3 ze3 (by intro v hv; simp only [List.mem_cons, List.not_mem_nil, or_false] at hv; rcases hv with rfl <;> first | rfl | simp [Value.cells]) rfl (by decide) rfl (fun b5 w8 F5 => ?_)
 have n_b0_b5 := F5.ne' hb0
 replace hb0 := F5.old hb0
 replace hb1 := F5.old hb1
 replace hb2 := F5.old hb2
 replace hb3 := F5.old hb3
 replace hb4 := F5.old hb4
 have hb5 : w8.heap[b5]? = some (.cells #[.int .i64 1] 3) := F5.new
 replace hR := hR.freshF F5
 replace hB := Fr.below hR hB0 hB0.size hSge
 refine At.call en84 rfl rfl (kind_any ts v (.slice (some ⟨b5, 0, none⟩) 1 1) ([1]) _ ((hts).keep hB) hb0 ((IntsAt.own (l := [1]) hb5 rfl (by decide) : IntsAt _ (.slice (some ⟨b5, 0, none⟩) 1 1) [1]))) (fun e w9 hR' => ?_)
 obtain ⟨rfl, hbl2⟩ := hR'
 refine ⟨_, rfl, ?_⟩
 replace hb0 := Below.old hbl2 hb0
 replace hb1 := Below.old hbl2 hb1
 replace hb2 := Below.old hbl2 hb2
 replace hb3 := Below.old hbl2 hb3
 replace hb4 := Below.old hbl2 hb4
 replace hb5 := Below.old hbl2 hb5
 replace hR := hR.callF hbl2
 replace hB := Fr.below hR hB0 hB0.size hSge
 refine .assign rfl rfl (.ops0 (.thenN ?_))
 refine At.cond (b := (kdK en ts ([1]))) rfl (fun hc1 => ?_) (fun hc1 => ?_)
 ·skip
  refine .region (.load rfl (Ld.ownCell ag98 hb1 rfl) rfl (.nilCheck rfl rfl (.fieldAddr rfl fo102_0 rfl ?_)))
  refine At.call en87 rfl rfl (ptake_any ts v _ hB hSge hts hb0 (kd_len hc1 (by simp))) (fun e wp1 hR' => ?_)
  obtain ⟨vr1, rfl, hts1, hbo1, hF1⟩ := hR'
  refine ⟨_, rfl, ?_⟩
  replace hb2 := Fr.oldB hF1 hb2 (n_b0_b2.symm)
  replace hb4 := Fr.oldB hF1 hb4 (n_b0_b4.symm)
  replace hb0 := hbo1
  replace hR := Fr.then hR hF1 (fun k hk => .inl hk)
  refine .fieldC rfl ft141_2 ag3 (((tk_ok (nx en ts))).c2) rfl (.fieldAddr rfl fo31_0 rfl ?_)
  refine At.store1 rfl rfl hb4 sz3 (by simp) rfl (fun w10 S3 => ?_)
  replace hb0 := S3.other hb0 n_b0_b4
  replace hb2 := S3.other hb2 n_b2_b4
  replace hb4 : w10.heap[b4]? = some (.cells #[.int .i64 2, .int .i64 ((nx en ts).a), zS, zS, zI, zN, zN, zI, zS, zI, zN, zN, zI, zN, zI, zI, zS, zI, zN, zN, zI] 31) := S3.new
  replace hR := hR.setF S3 (.inr gb4)
  refine .fieldAddr rfl fo31_4 rfl ?_
  refine At.store1 rfl rfl hb4 sz3 (by simp) rfl (fun w11 S4 => ?_)
  replace hb0 := S4.other hb0 n_b0_b4
  replace hb2 := S4.other hb2 n_b2_b4
  replace hb4 : w11.heap[b4]? = some (.cells #[.int .i64 2, .int .i64 ((nx en ts).a), zS, zS, .int .i64 ((nx en ts).n), zN, zN, zI, zS, zI, zN, zN, zI, zN, zI, zI, zS, zI, zN, zN, zI] 31) := S4.new
  replace hR := hR.setF S4 (.inr gb4)
  refine .ops0 (.inN (.thenN (.seq (.region (.load rfl (Ld.own (C := #[.int .i64 2, .int .i64 ((nx en ts).a), zS, zS, .int .i64 ((nx en ts).n), zN, zN, zI, zS, zI, zN, zN, zI, zN, zI, zI, zS, zI, zN, zN, zI]) ag31 sz31 hb4) rfl ?_)))))
  refine At.storeAll rfl rfl hb2 sz31 rfl (by first | (simp [Value.oneCell', ((SlOk.nil)).one]; done) | (simp only [List.all_toArray, List.all_cons, List.all_nil, ((SlOk.nil)).one, Bool.and_true, Bool.true_and] <;> rfl)) (fun w12 S5 => ?_)
  replace hb0 := S5.other hb0 n_b0_b2
  replace hb2 : w12.heap[b2]? = some (.cells #[.int .i64 2, .int .i64 ((nx en ts).a), zS, zS, .int .i64 ((nx en ts).n), zN, zN, zI, zS, zI, zN, zN, zI, zN, zI, zI, zS, zI, zN, zN, zI] 31) := S5.new
  replace hR := hR.setF S5 (.inr gb2)
  refine .ops0 (.thenN (.retc (.doneR (ResV.cell rfl (Ld.own (C := #[.int .i64 2, .int .i64 ((nx en ts).a), zS, zS, .int .i64 ((nx en ts).n), zN, zN, zI, zS, zI, zN, zN, zI, zN, zI, zI, zS, zI, zN, zN, zI]) ag31 sz31 hb2) ResV.nil) ?_)))
  exact RetP.ok (x := (ST.mk 2 ((nx en ts).a) (⟨#[]⟩ : ByteArray) (⟨#[]⟩ : ByteArray) ((nx en ts).n) [] [])) (by simp only [atomP, failP, SB, hc1] <;> rfl) hR hts1 hb0 ⟨(tmA 2 ((nx en ts).a) (⟨#[]⟩ : ByteArray) (⟨#[]⟩ : ByteArray) ((nx en ts).n) zN [] zN []), rfl, (tmA_ok (RowsAt.nil _ 21) (Xs.ok (Xs.nil kTm [] _)) (RowsAt.nil _ 23) (Xs.ok (Xs.nil kAm [] _))), (MT.made (k := 2) (a := (nx en ts).a) (nm := (⟨#[]⟩ : ByteArray)) (pm := (⟨#[]⟩ : ByteArray)) (n := (nx en ts).n) (MTL.nil w) (MAL.nil w) (fun h => absurd rfl h) (fun h => absurd rfl h))⟩
 refine .seq (.region (.load rfl (Ld.ownCell ag98 hb1 rfl) rfl (.nilCheck rfl rfl (.fieldAddr rfl fo102_0 rfl ?_))))
 refine At.buildSlice (xs := [.const (.string (⟨#[116, 114, 117, 101]⟩ : ByteArray)), .const (.string (⟨#[102, 97, 108, 115, 101]⟩ : ByteArray))]) rfl rfl el25 sz9 ze9 (by intro v hv; simp only [List.mem_cons, List.not_mem_nil, or_false] at hv; rcases hv with rfl | rfl <;> first | rfl | simp [Value.cells]) rfl (by decide) rfl (fun b6 w13 F6 => ?_)
 have n_b0_b6 := F6.ne' hb0
 replace hb0 := F6.old hb0
 replace hb1 := F6.old hb1
 replace hb2 := F6.old hb2
 replace hb3 := F6.old hb3
 replace hb4 := F6.old hb4
 replace hb5 := F6.old hb5
 have hb6 : w13.heap[b6]? = some (.cells #[.string (⟨#[116, 114, 117, 101]⟩ : ByteArray), .string (⟨#[102, 97, 108, 115, 101]⟩ : ByteArray)] 9) := F6.new
 replace hR := hR.freshF F6
 replace hB := Fr.below hR hB0 hB0.size hSge
 refine At.call en59 rfl rfl (is_any ts v (.slice (some ⟨b6, 0, none⟩) 2 2) ([(⟨#[116, 114, 117, 101]⟩ : ByteArray), (⟨#[102, 97, 108, 115, 101]⟩ : ByteArray)]) _ ((hts).keep hB) hb0 ((StrsAt.own (ss := [(⟨#[116, 114, 117, 101]⟩ : ByteArray), (⟨#[102, 97, 108, 115, 101]⟩ : ByteArray)]) hb6 rfl (by decide) : StrsAt _ (.slice (some ⟨b6, 0, none⟩) 2 2) [(⟨#[116, 114, 117, 101]⟩ : ByteArray), (⟨#[102, 97, 108, 115, 101]⟩ : ByteArray)]))) (fun e w14 hR' => ?_)
 obtain ⟨rfl, hbl3⟩ := hR'
 refine ⟨_, rfl, ?_⟩
 replace hb0 := Below.old hbl3 hb0
 replace hb1 := Below.old hbl3 hb1
 replace hb2 := Below.old hbl3 hb2
 replace hb3 := Below.old hbl3 hb3
 replace hb4 := Below.old hbl3 hb4
 replace hb5 := Below.old hbl3 hb5
 replace hb6 := Below.old hbl3 hb6
 replace hR := hR.callF hbl3
 refine .assign rfl rfl (.ops0 (.thenN ?_))
 refine At.cond (b := (isK en ts ([(⟨#[116, 114, 117, 101]⟩ : ByteArray), (⟨#[102, 97, 108, 115, 101]⟩ : ByteArray)]))) rfl (fun hc2 => ?_) (fun hc2 => ?_)
 ·skip
  exact (PR.no hg (by simp only [atomP, failP, SB, hc1, hc2] <;> rfl)).elim
 refine .seq (.region (.load rfl (Ld.ownCell ag98 hb1 rfl) rfl (.nilCheck rfl rfl (.fieldAddr rfl fo102_0 rfl ?_))))
 refine At.buildSlice (xs := [.const (.int .i64 2)]) rfl rfl el32 sz3 ze3 (by intro v hv; simp only [List.mem_cons, List.not_mem_nil, or_false] at hv; rcases hv with rfl <;> first | rfl | simp [Value.cells]) rfl (by decide) rfl (fun b7 w15 F7 => ?_)
 have n_b0_b7 := F7.ne' hb0
 replace hb0 := F7.old hb0
 replace hb1 := F7.old hb1
 replace hb2 := F7.old hb2
 replace hb3 := F7.old hb3
 replace hb4 := F7.old hb4
 replace hb5 := F7.old hb5
 replace hb6 := F7.old hb6
 have hb7 : w15.heap[b7]? = some (.cells #[.int .i64 2] 3) := F7.new
 replace hR := hR.freshF F7
 replace hB := Fr.below hR hB0 hB0.size hSge
 refine At.call en84 rfl rfl (kind_any ts v (.slice (some ⟨b7, 0, none⟩) 1 1) ([2]) _ ((hts).keep hB) hb0 ((IntsAt.own (l := [2]) hb7 rfl (by decide) : IntsAt _ (.slice (some ⟨b7, 0, none⟩) 1 1) [2]))) (fun e w16 hR' => ?_)
 obtain ⟨rfl, hbl4⟩ := hR'
 refine ⟨_, rfl, ?_⟩
 replace hb0 := Below.old hbl4 hb0
 replace hb1 := Below.old hbl4 hb1
 replace hb2 := Below.old hbl4 hb2
 replace hb3 := Below.old hbl4 hb3
 replace hb4 := Below.old hbl4 hb4
 replace hb5 := Below.old hbl4 hb5
 replace hb6 := Below.old hbl4 hb6
 replace hb7 := Below.old hbl4 hb7
 replace hR := hR.callF hbl4
 replace hB := Fr.below hR hB0 hB0.size hSge
 refine .assign rfl rfl (.ops0 (.thenN ?_))
 refine At.cond (b := (kdK en ts ([2]))) rfl (fun hc3 => ?_) (fun hc3 => ?_)
 ·skip
  refine .region (.load rfl (Ld.ownCell ag98 hb1 rfl) rfl (.nilCheck rfl rfl (.fieldAddr rfl fo102_0 rfl ?_)))
  refine At.call en87 rfl rfl (ptake_any ts v _ hB hSge hts hb0 (kd_len hc3 (by simp))) (fun e wp2 hR' => ?_)
  obtain ⟨vr2, rfl, hts2, hbo2, hF2⟩ := hR'
  refine ⟨_, rfl, ?_⟩
  replace hb2 := Fr.oldB hF2 hb2 (n_b0_b2.symm)
  replace hb4 := Fr.oldB hF2 hb4 (n_b0_b4.symm)
  replace hb0 := hbo2
  replace hR := Fr.then hR hF2 (fun k hk => .inl hk)
  refine .fieldC rfl ft141_1 ag9 (((tk_ok (nx en ts))).c1) rfl (.fieldAddr rfl fo31_0 rfl ?_)
  refine At.store1 rfl rfl hb4 sz3 (by simp) rfl (fun w17 S6 => ?_)
  replace hb0 := S6.other hb0 n_b0_b4
  replace hb2 := S6.other hb2 n_b2_b4
  replace hb4 : w17.heap[b4]? = some (.cells #[.int .i64 1, .int .i64 ((nx en ts).a), zS, zS, zI, zN, zN, zI, zS, zI, zN, zN, zI, zN, zI, zI, zS, zI, zN, zN, zI] 31) := S6.new
  replace hR := hR.setF S6 (.inr gb4)
  refine .fieldAddr rfl fo31_2 rfl ?_
  refine At.store1 rfl rfl hb4 sz9 (by simp) rfl (fun w18 S7 => ?_)
  replace hb0 := S7.other hb0 n_b0_b4
  replace hb2 := S7.other hb2 n_b2_b4
  replace hb4 : w18.heap[b4]? = some (.cells #[.int .i64 1, .int .i64 ((nx en ts).a), .string (bs ((nx en ts).t)), zS, zI, zN, zN, zI, zS, zI, zN, zN, zI, zN, zI, zI, zS, zI, zN, zN, zI] 31) := S7.new
  replace hR := hR.setF S7 (.inr gb4)
  refine .ops0 (.inN (.thenN (.seq (.region (.load rfl (Ld.own (C := #[.int .i64 1, .int .i64 ((nx en ts).a), .string (bs ((nx en ts).t)), zS, zI, zN, zN, zI, zS, zI, zN, zN, zI, zN, zI, zI, zS, zI, zN, zN, zI]) ag31 sz31 hb4) rfl ?_)))))
  refine At.storeAll rfl rfl hb2 sz31 rfl (by first | (simp [Value.oneCell', ((SlOk.nil)).one]; done) | (simp only [List.all_toArray, List.all_cons, List.all_nil, ((SlOk.nil)).one, Bool.and_true, Bool.true_and] <;> rfl)) (fun w19 S8 => ?_)
  replace hb0 := S8.other hb0 n_b0_b2
  replace hb2 : w19.heap[b2]? = some (.cells #[.int .i64 1, .int .i64 ((nx en ts).a), .string (bs ((nx en ts).t)), zS, zI, zN, zN, zI, zS, zI, zN, zN, zI, zN, zI, zI, zS, zI, zN, zN, zI] 31) := S8.new
  replace hR := hR.setF S8 (.inr gb2)
  refine .ops0 (.thenN (.retc (.doneR (ResV.cell rfl (Ld.own (C := #[.int .i64 1, .int .i64 ((nx en ts).a), .string (bs ((nx en ts).t)), zS, zI, zN, zN, zI, zS, zI, zN, zN, zI, zN, zI, zI, zS, zI, zN, zN, zI]) ag31 sz31 hb2) ResV.nil) ?_)))
  exact RetP.ok (x := (ST.mk 1 ((nx en ts).a) (bs ((nx en ts).t)) (⟨#[]⟩ : ByteArray) 0 [] [])) (by simp only [atomP, failP, SB, hc1, hc2, hc3] <;> rfl) hR hts2 hb0 ⟨(tmA 1 ((nx en ts).a) (bs ((nx en ts).t)) (⟨#[]⟩ : ByteArray) 0 zN [] zN []), rfl, (tmA_ok (RowsAt.nil _ 21) (Xs.ok (Xs.nil kTm [] _)) (RowsAt.nil _ 23) (Xs.ok (Xs.nil kAm [] _))), (MT.made (k := 1) (a := (nx en ts).a) (nm := (bs ((nx en ts).t))) (pm := (⟨#[]⟩ : ByteArray)) (n := 0) (MTL.nil w) (MAL.nil w) (fun h => absurd rfl h) (fun h => absurd rfl h))⟩
 refine .seq (.region (.load rfl (Ld.ownCell ag98 hb1 rfl) rfl (.nilCheck rfl rfl (.fieldAddr rfl fo102_0 rfl ?_))))
 refine At.buildSlice (xs := [.const (.string (⟨#[114, 101, 97, 100]⟩ : ByteArray))]) rfl rfl el25 sz9 ze9 (by intro v hv; simp only [List.mem_cons, List.not_mem_nil, or_false] at hv; rcases hv with rfl <;> first | rfl | simp [Value.cells]) rfl (by decide) rfl (fun b8 w20 F8 => ?_)
 have n_b0_b8 := F8.ne' hb0
 replace hb0 := F8.old hb0
 replace hb1 := F8.old hb1
 replace hb2 := F8.old hb2
 replace hb3 := F8.old hb3
 replace hb4 := F8.old hb4
 replace hb5 := F8.old hb5
 replace hb6 := F8.old hb6
 replace hb7 := F8.old hb7
 have hb8 : w20.heap[b8]? = some (.cells #[.string (⟨#[114, 101, 97, 100]⟩ : ByteArray)] 9) := F8.new
 replace hR := hR.freshF F8
 replace hB := Fr.below hR hB0 hB0.size hSge
 refine At.call en59 rfl rfl (is_any ts v (.slice (some ⟨b8, 0, none⟩) 1 1) ([(⟨#[114, 101, 97, 100]⟩ : ByteArray)]) _ ((hts).keep hB) hb0 ((StrsAt.own (ss := [(⟨#[114, 101, 97, 100]⟩ : ByteArray)]) hb8 rfl (by decide) : StrsAt _ (.slice (some ⟨b8, 0, none⟩) 1 1) [(⟨#[114, 101, 97, 100]⟩ : ByteArray)]))) (fun e w21 hR' => ?_)
 obtain ⟨rfl, hbl5⟩ := hR'
 refine ⟨_, rfl, ?_⟩
 replace hb0 := Below.old hbl5 hb0
 replace hb1 := Below.old hbl5 hb1
 replace hb2 := Below.old hbl5 hb2
 replace hb3 := Below.old hbl5 hb3
 replace hb4 := Below.old hbl5 hb4
 replace hb5 := Below.old hbl5 hb5
 replace hb6 := Below.old hbl5 hb6
 replace hb7 := Below.old hbl5 hb7
 replace hb8 := Below.old hbl5 hb8
 replace hR := hR.callF hbl5
 refine .assign rfl rfl (.ops0 (.thenN ?_))
 refine At.cond (b := (isK en ts ([(⟨#[114, 101, 97, 100]⟩ : ByteArray)]))) rfl (fun hc4 => ?_) (fun hc4 => ?_)
 ·skip
  refine .seq (.region (.load rfl (Ld.ownCell ag98 hb1 rfl) rfl ?_))
  refine At.buildSlice (xs := [.const (.string (⟨#[114, 101, 97, 100]⟩ : ByteArray)), .const (.string (⟨#[40]⟩ : ByteArray)), .const (.string (⟨#[41]⟩ : ByteArray))]) rfl rfl el25 sz9 ze9 (by intro v hv; simp only [List.mem_cons, List.not_mem_nil, or_false] at hv; rcases hv with rfl | rfl | rfl <;> first | rfl | simp [Value.cells]) rfl (by decide) rfl (fun b9 w22 F9 => ?_)
  have n_b0_b9 := F9.ne' hb0
  replace hb0 := F9.old hb0
  replace hb2 := F9.old hb2
  replace hb4 := F9.old hb4
  have hb9 : w22.heap[b9]? = some (.cells #[.string (⟨#[114, 101, 97, 100]⟩ : ByteArray), .string (⟨#[40]⟩ : ByteArray), .string (⟨#[41]⟩ : ByteArray)] 9) := F9.new
  replace hR := hR.freshF F9
  replace hB := Fr.below hR hB0 hB0.size hSge
  refine At.call en78 rfl rfl (ptext_any ts v (.slice (some ⟨b9, 0, none⟩) 3 3) ([(⟨#[114, 101, 97, 100]⟩ : ByteArray), (⟨#[40]⟩ : ByteArray), (⟨#[41]⟩ : ByteArray)]) _ hB hSge hts hb0 ((StrsAt.own (ss := [(⟨#[114, 101, 97, 100]⟩ : ByteArray), (⟨#[40]⟩ : ByteArray), (⟨#[41]⟩ : ByteArray)]) hb9 rfl (by decide) : StrsAt _ (.slice (some ⟨b9, 0, none⟩) 3 3) [(⟨#[114, 101, 97, 100]⟩ : ByteArray), (⟨#[40]⟩ : ByteArray), (⟨#[41]⟩ : ByteArray)])) (fun _ => show b9 ≠ b0 from n_b0_b9.symm) (PR.sub hg (by (try simp only [atomP, failP, SB, hc1, hc2, hc3, hc4]); repeat constructor))) (fun e wp3 hR' => ?_)
  obtain ⟨x3, us3, val3, vr3, hq3, rfl, hF3, hts3, hbo3, ho3⟩ := hR'
  refine ⟨_, rfl, ?_⟩
  replace hb2 := Fr.oldB hF3 hb2 (n_b0_b2.symm)
  replace hb4 := Fr.oldB hF3 hb4 (n_b0_b4.symm)
  replace hb0 := hbo3
  have hsz3 := hR.size
  replace hR := Fr.then hR hF3 (fun k hk => .inl hk)
  obtain rfl := ho3
  refine .ops0 (.thenN (.region (.fieldAddr rfl fo31_0 rfl ?_)))
  refine At.store1 rfl rfl hb4 sz3 (by simp) rfl (fun w23 S9 => ?_)
  replace hb0 := S9.other hb0 n_b0_b4
  replace hb2 := S9.other hb2 n_b2_b4
  replace hb4 : w23.heap[b4]? = some (.cells #[.int .i64 10, .int .i64 ((nx en ts).a), zS, zS, zI, zN, zN, zI, zS, zI, zN, zN, zI, zN, zI, zI, zS, zI, zN, zN, zI] 31) := S9.new
  replace hR := hR.setF S9 (.inr gb4)
  refine .fieldAddr rfl fo31_2 rfl ?_
  refine At.store1 rfl rfl hb4 sz9 (by simp) rfl (fun w24 S10 => ?_)
  replace hb0 := S10.other hb0 n_b0_b4
  replace hb2 := S10.other hb2 n_b2_b4
  replace hb4 : w24.heap[b4]? = some (.cells #[.int .i64 10, .int .i64 ((nx en ts).a), .string (⟨#[114, 101, 97, 100]⟩ : ByteArray), zS, zI, zN, zN, zI, zS, zI, zN, zN, zI, zN, zI, zI, zS, zI, zN, zN, zI] 31) := S10.new
  replace hR := hR.setF S10 (.inr gb4)
  refine .ops0 (.inN (.thenN (.seq (.region (.load rfl (Ld.own (C := #[.int .i64 10, .int .i64 ((nx en ts).a), .string (⟨#[114, 101, 97, 100]⟩ : ByteArray), zS, zI, zN, zN, zI, zS, zI, zN, zN, zI, zN, zI, zI, zS, zI, zN, zN, zI]) ag31 sz31 hb4) rfl ?_)))))
  refine At.storeAll rfl rfl hb2 sz31 rfl (by first | (simp [Value.oneCell', ((SlOk.nil)).one]; done) | (simp only [List.all_toArray, List.all_cons, List.all_nil, ((SlOk.nil)).one, Bool.and_true, Bool.true_and] <;> rfl)) (fun w25 S11 => ?_)
  replace hb0 := S11.other hb0 n_b0_b2
  replace hb2 : w25.heap[b2]? = some (.cells #[.int .i64 10, .int .i64 ((nx en ts).a), .string (⟨#[114, 101, 97, 100]⟩ : ByteArray), zS, zI, zN, zN, zI, zS, zI, zN, zN, zI, zN, zI, zI, zS, zI, zN, zN, zI] 31) := S11.new
  replace hR := hR.setF S11 (.inr gb2)
  refine .ops0 (.thenN (.retc (.doneR (ResV.cell rfl (Ld.own (C := #[.int .i64 10, .int .i64 ((nx en ts).a), .string (⟨#[114, 101, 97, 100]⟩ : ByteArray), zS, zI, zN, zN, zI, zS, zI, zN, zN, zI, zN, zI, zI, zS, zI, zN, zN, zI]) ag31 sz31 hb2) ResV.nil) ?_)))
  exact RetP.ok (x := (ST.mk 10 ((nx en ts).a) (⟨#[114, 101, 97, 100]⟩ : ByteArray) (⟨#[]⟩ : ByteArray) 0 [] [])) (by simp only [atomP, failP, SB, hc1, hc2, hc3, hc4, hq3] <;> rfl) hR hts3 hb0 ⟨(tmA 10 ((nx en ts).a) (⟨#[114, 101, 97, 100]⟩ : ByteArray) (⟨#[]⟩ : ByteArray) 0 zN [] zN []), rfl, (tmA_ok (RowsAt.nil _ 21) (Xs.ok (Xs.nil kTm [] _)) (RowsAt.nil _ 23) (Xs.ok (Xs.nil kAm [] _))), (MT.made (k := 10) (a := (nx en ts).a) (nm := (⟨#[114, 101, 97, 100]⟩ : ByteArray)) (pm := (⟨#[]⟩ : ByteArray)) (n := 0) (MTL.nil w) (MAL.nil w) (fun h => absurd rfl h) (fun h => absurd rfl h))⟩
 refine .seq (.region (.load rfl (Ld.ownCell ag98 hb1 rfl) rfl (.nilCheck rfl rfl (.fieldAddr rfl fo102_0 rfl ?_))))
 refine At.buildSlice (xs := [.const (.int .i64 3)]) rfl rfl el32 sz3 ze3 (by intro v hv; simp only [List.mem_cons, List.not_mem_nil, or_false] at hv; rcases hv with rfl <;> first | rfl | simp [Value.cells]) rfl (by decide) rfl (fun b10 w26 F10 => ?_)
 have n_b0_b10 := F10.ne' hb0
 replace hb0 := F10.old hb0
 replace hb1 := F10.old hb1
 replace hb2 := F10.old hb2
 replace hb3 := F10.old hb3
 replace hb4 := F10.old hb4
 replace hb5 := F10.old hb5
 replace hb6 := F10.old hb6
 replace hb7 := F10.old hb7
 replace hb8 := F10.old hb8
 have hb10 : w26.heap[b10]? = some (.cells #[.int .i64 3] 3) := F10.new
 replace hR := hR.freshF F10
 replace hB := Fr.below hR hB0 hB0.size hSge
 refine At.call en84 rfl rfl (kind_any ts v (.slice (some ⟨b10, 0, none⟩) 1 1) ([3]) _ ((hts).keep hB) hb0 ((IntsAt.own (l := [3]) hb10 rfl (by decide) : IntsAt _ (.slice (some ⟨b10, 0, none⟩) 1 1) [3]))) (fun e w27 hR' => ?_)
 obtain ⟨rfl, hbl6⟩ := hR'
 refine ⟨_, rfl, ?_⟩
 replace hb0 := Below.old hbl6 hb0
 replace hb1 := Below.old hbl6 hb1
 replace hb2 := Below.old hbl6 hb2
 replace hb3 := Below.old hbl6 hb3
 replace hb4 := Below.old hbl6 hb4
 replace hb5 := Below.old hbl6 hb5
 replace hb6 := Below.old hbl6 hb6
 replace hb7 := Below.old hbl6 hb7
 replace hb8 := Below.old hbl6 hb8
 replace hb10 := Below.old hbl6 hb10
 replace hR := hR.callF hbl6
 refine .assign rfl rfl (.ops0 (.thenN ?_))
 refine At.cond (b := (kdK en ts ([3]))) rfl (fun hc5 => ?_) (fun hc5 => ?_)
 ·skip
  exact (PR.no hg (by simp only [atomP, failP, SB, hc1, hc2, hc3, hc4, hc5] <;> rfl)).elim
 refine .seq (.region (.load rfl (Ld.ownCell ag98 hb1 rfl) rfl (.nilCheck rfl rfl (.fieldAddr rfl fo102_0 rfl ?_))))
 refine At.buildSlice (xs := [.const (.string (⟨#[40]⟩ : ByteArray))]) rfl rfl el25 sz9 ze9 (by intro v hv; simp only [List.mem_cons, List.not_mem_nil, or_false] at hv; rcases hv with rfl <;> first | rfl | simp [Value.cells]) rfl (by decide) rfl (fun b11 w28 F11 => ?_)
 have n_b0_b11 := F11.ne' hb0
 replace hb0 := F11.old hb0
 replace hb1 := F11.old hb1
 replace hb2 := F11.old hb2
 replace hb3 := F11.old hb3
 replace hb4 := F11.old hb4
 replace hb5 := F11.old hb5
 replace hb6 := F11.old hb6
 replace hb7 := F11.old hb7
 replace hb8 := F11.old hb8
 replace hb10 := F11.old hb10
 have hb11 : w28.heap[b11]? = some (.cells #[.string (⟨#[40]⟩ : ByteArray)] 9) := F11.new
 replace hR := hR.freshF F11
 replace hB := Fr.below hR hB0 hB0.size hSge
 refine At.call en59 rfl rfl (is_any ts v (.slice (some ⟨b11, 0, none⟩) 1 1) ([(⟨#[40]⟩ : ByteArray)]) _ ((hts).keep hB) hb0 ((StrsAt.own (ss := [(⟨#[40]⟩ : ByteArray)]) hb11 rfl (by decide) : StrsAt _ (.slice (some ⟨b11, 0, none⟩) 1 1) [(⟨#[40]⟩ : ByteArray)]))) (fun e w29 hR' => ?_)
 obtain ⟨rfl, hbl7⟩ := hR'
 refine ⟨_, rfl, ?_⟩
 replace hb0 := Below.old hbl7 hb0
 replace hb1 := Below.old hbl7 hb1
 replace hb2 := Below.old hbl7 hb2
 replace hb3 := Below.old hbl7 hb3
 replace hb4 := Below.old hbl7 hb4
 replace hb5 := Below.old hbl7 hb5
 replace hb6 := Below.old hbl7 hb6
 replace hb7 := Below.old hbl7 hb7
 replace hb8 := Below.old hbl7 hb8
 replace hb10 := Below.old hbl7 hb10
 replace hb11 := Below.old hbl7 hb11
 replace hR := hR.callF hbl7
 replace hB := Fr.below hR hB0 hB0.size hSge
 refine .assign rfl rfl (.ops0 (.thenN ?_))
 refine At.cond (b := (isK en ts ([(⟨#[40]⟩ : ByteArray)]))) rfl (fun hc6 => ?_) (fun hc6 => ?_)
 ·skip
  refine .seq (.region (.load rfl (Ld.ownCell ag98 hb1 rfl) rfl (.nilCheck rfl rfl (.fieldAddr rfl fo102_0 rfl ?_))))
  refine At.call en87 rfl rfl (ptake_any ts v _ hB hSge hts hb0 (is_len hc6)) (fun e wp4 hR' => ?_)
  obtain ⟨vr4, rfl, hts4, hbo4, hF4⟩ := hR'
  refine ⟨_, rfl, ?_⟩
  replace hb1 := Fr.oldB hF4 hb1 (n_b0_b1.symm)
  replace hb2 := Fr.oldB hF4 hb2 (n_b0_b2.symm)
  replace hb3 := Fr.oldB hF4 hb3 (n_b0_b3.symm)
  replace hb4 := Fr.oldB hF4 hb4 (n_b0_b4.symm)
  replace hb5 := Fr.oldB hF4 hb5 (n_b0_b5.symm)
  replace hb6 := Fr.oldB hF4 hb6 (n_b0_b6.symm)
  replace hb7 := Fr.oldB hF4 hb7 (n_b0_b7.symm)
  replace hb8 := Fr.oldB hF4 hb8 (n_b0_b8.symm)
  replace hb10 := Fr.oldB hF4 hb10 (n_b0_b10.symm)
  replace hb11 := Fr.oldB hF4 hb11 (n_b0_b11.symm)
  replace hb0 := hbo4
  replace hR := Fr.then hR hF4 (fun k hk => .inl hk)
  refine .ops0 (.thenN (.seq (.seq (.region (.load rfl (Ld.ownCell ag98 hb1 rfl) rfl (.nilCheck rfl rfl (.fieldAddr rfl fo102_0 rfl ?_)))))))
  refine At.buildSlice (xs := [.const (.string (⟨#[41]⟩ : ByteArray))]) rfl rfl el25 sz9 ze9 (by intro v hv; simp only [List.mem_cons, List.not_mem_nil, or_false] at hv; rcases hv with rfl <;> first | rfl | simp [Value.cells]) rfl (by decide) rfl (fun b12 w30 F12 => ?_)
  replace hb0 := F12.old hb0
  replace hb1 := F12.old hb1
  replace hb2 := F12.old hb2
  replace hb3 := F12.old hb3
  replace hb4 := F12.old hb4
  replace hb5 := F12.old hb5
  replace hb6 := F12.old hb6
  replace hb7 := F12.old hb7
  replace hb8 := F12.old hb8
  replace hb10 := F12.old hb10
  replace hb11 := F12.old hb11
  have hb12 : w30.heap[b12]? = some (.cells #[.string (⟨#[41]⟩ : ByteArray)] 9) := F12.new
  replace hR := hR.freshF F12
  replace hB := Fr.below hR hB0 hB0.size hSge
  refine At.call en59 rfl rfl (is_any ts.tail vr4 (.slice (some ⟨b12, 0, none⟩) 1 1) ([(⟨#[41]⟩ : ByteArray)]) _ ((hts4).keep hB) hb0 ((StrsAt.own (ss := [(⟨#[41]⟩ : ByteArray)]) hb12 rfl (by decide) : StrsAt _ (.slice (some ⟨b12, 0, none⟩) 1 1) [(⟨#[41]⟩ : ByteArray)]))) (fun e w31 hR' => ?_)
  obtain ⟨rfl, hbl8⟩ := hR'
  refine ⟨_, rfl, ?_⟩
  replace hb0 := Below.old hbl8 hb0
  replace hb1 := Below.old hbl8 hb1
  replace hb2 := Below.old hbl8 hb2
  replace hb3 := Below.old hbl8 hb3
  replace hb4 := Below.old hbl8 hb4
  replace hb5 := Below.old hbl8 hb5
  replace hb6 := Below.old hbl8 hb6
  replace hb7 := Below.old hbl8 hb7
  replace hb8 := Below.old hbl8 hb8
  replace hb10 := Below.old hbl8 hb10
  replace hb11 := Below.old hbl8 hb11
  replace hb12 := Below.old hbl8 hb12
  replace hR := hR.callF hbl8
  replace hB := Fr.below hR hB0 hB0.size hSge
  refine .ops0 (.thenN ?_)
  refine At.cond (b := (isK en ts.tail ([(⟨#[41]⟩ : ByteArray)]))) rfl (fun hc7 => ?_) (fun hc7 => ?_)
  ·skip
   refine .seq (.region (.load rfl (Ld.ownCell ag98 hb1 rfl) rfl (.nilCheck rfl rfl (.fieldAddr rfl fo102_0 rfl ?_))))
   refine At.call en87 rfl rfl (ptake_any ts.tail vr4 _ hB hSge hts4 hb0 (is_len hc7)) (fun e wp5 hR' => ?_)
   obtain ⟨vr5, rfl, hts5, hbo5, hF5⟩ := hR'
   refine ⟨_, rfl, ?_⟩
   replace hb2 := Fr.oldB hF5 hb2 (n_b0_b2.symm)
   replace hb4 := Fr.oldB hF5 hb4 (n_b0_b4.symm)
   replace hb0 := hbo5
   replace hR := Fr.then hR hF5 (fun k hk => .inl hk)
   refine .ops0 (.thenN (.seq (.region (.fieldAddr rfl fo31_0 rfl ?_))))
   refine At.store1 rfl rfl hb4 sz3 (by simp) rfl (fun w32 S12 => ?_)
   replace hb0 := S12.other hb0 n_b0_b4
   replace hb2 := S12.other hb2 n_b2_b4
   replace hb4 : w32.heap[b4]? = some (.cells #[.int .i64 4, .int .i64 ((nx en ts).a), zS, zS, zI, zN, zN, zI, zS, zI, zN, zN, zI, zN, zI, zI, zS, zI, zN, zN, zI] 31) := S12.new
   replace hR := hR.setF S12 (.inr gb4)
   refine .ops0 (.thenN (.seq (.region (.load rfl (Ld.own (C := #[.int .i64 4, .int .i64 ((nx en ts).a), zS, zS, zI, zN, zN, zI, zS, zI, zN, zN, zI, zN, zI, zI, zS, zI, zN, zN, zI]) ag31 sz31 hb4) rfl ?_))))
   refine At.storeAll rfl rfl hb2 sz31 rfl (by first | (simp [Value.oneCell', ((SlOk.nil)).one]; done) | (simp only [List.all_toArray, List.all_cons, List.all_nil, ((SlOk.nil)).one, Bool.and_true, Bool.true_and] <;> rfl)) (fun w33 S13 => ?_)
   replace hb0 := S13.other hb0 n_b0_b2
   replace hb2 : w33.heap[b2]? = some (.cells #[.int .i64 4, .int .i64 ((nx en ts).a), zS, zS, zI, zN, zN, zI, zS, zI, zN, zN, zI, zN, zI, zI, zS, zI, zN, zN, zI] 31) := S13.new
   replace hR := hR.setF S13 (.inr gb2)
   refine .ops0 (.thenN (.retc (.thenR (.inR (.thenR (.doneR (ResV.cell rfl (Ld.own (C := #[.int .i64 4, .int .i64 ((nx en ts).a), zS, zS, zI, zN, zN, zI, zS, zI, zN, zN, zI, zN, zI, zI, zS, zI, zN, zN, zI]) ag31 sz31 hb2) ResV.nil) ?_))))))
   exact RetP.ok (x := (ST.mk 4 ((nx en ts).a) (⟨#[]⟩ : ByteArray) (⟨#[]⟩ : ByteArray) 0 [] [])) (by simp only [atomP, failP, SB, hc1, hc2, hc3, hc4, hc5, hc6, hc7] <;> rfl) hR hts5 hb0 ⟨(tmA 4 ((nx en ts).a) (⟨#[]⟩ : ByteArray) (⟨#[]⟩ : ByteArray) 0 zN [] zN []), rfl, (tmA_ok (RowsAt.nil _ 21) (Xs.ok (Xs.nil kTm [] _)) (RowsAt.nil _ 23) (Xs.ok (Xs.nil kAm [] _))), (MT.made (k := 4) (a := (nx en ts).a) (nm := (⟨#[]⟩ : ByteArray)) (pm := (⟨#[]⟩ : ByteArray)) (n := 0) (MTL.nil w) (MAL.nil w) (fun h => absurd rfl h) (fun h => absurd rfl h))⟩
  refine .skip (.thenN (.seq (.region (.load rfl (Ld.ownCell ag98 hb1 rfl) rfl ?_))))
  have hml6 : MLt w31.heap.size [some b0, some b1, some b2, some b3, some b4, some b5, some b6, some b7, some b8, some b10, some b11, some b12] := (MLt.blk hb0 (MLt.blk hb1 (MLt.blk hb2 (MLt.blk hb3 (MLt.blk hb4 (MLt.blk hb5 (MLt.blk hb6 (MLt.blk hb7 (MLt.blk hb8 (MLt.blk hb10 (MLt.blk hb11 (MLt.blk hb12 (MLt.nil _)))))))))))))
  refine At.call en62 rfl rfl (hex wB b0 ts.tail vr4 _ hB hSge hts4 hb0 (by have hz := hbig; have := tail_len (is_len hc6); omega) (PR.sub hg (by (try simp only [atomP, failP, SB, hc1, hc2, hc3, hc4, hc5, hc6, hc7]); repeat constructor))) (fun e wp6 hR' => ?_)
  obtain ⟨x6, us6, val6, vr6, hq6, rfl, hF6, hts6, hbo6, ho6⟩ := hR'
  refine ⟨_, rfl, ?_⟩
  replace hb1 := Fr.oldB hF6 hb1 (n_b0_b1.symm)
  replace hb2 := Fr.oldB hF6 hb2 (n_b0_b2.symm)
  replace hb4 := Fr.oldB hF6 hb4 (n_b0_b4.symm)
  replace hb0 := hbo6
  have hsz6 := hR.size
  replace hR := Fr.then hR hF6 (fun k hk => .inl hk)
  obtain ⟨tm6, rfl, htm6, hmt6⟩ := ho6
  have hx6 := Xs.of_new (B := 0) (M := [some b0, some b1, some b2, some b3, some b4, some b5, some b6, some b7, some b8, some b10, some b11, some b12]) (K := kTm) htm6 (fun b hb => .inr (hmt6.blk b hb)) (fun _ _ => Nat.zero_le _) hml6
  replace hmt6 := hmt6.mono hsz6
  refine At.storeAll rfl rfl hb4 (sz31.trans (congrArg some ((Xs.one hx6)).size.symm)) ((Xs.one hx6)).size.symm ((Xs.one hx6)).one (fun w34 S14 => ?_)
  replace hb0 := S14.other hb0 n_b0_b4
  replace hb1 := S14.other hb1 n_b1_b4
  replace hb2 := S14.other hb2 n_b2_b4
  replace hx6 := Xs.set hx6 S14 (by simp)
  replace hb4 : w34.heap[b4]? = some (.cells tm6.cs 31) := S14.new
  replace hR := hR.setF S14 (.inr gb4)
  refine .ops0 (.thenN (.region (.load rfl (Ld.ownCell ag98 hb1 rfl) rfl ?_)))
  refine At.buildSlice (xs := [.const (.string (⟨#[41]⟩ : ByteArray))]) rfl rfl el25 sz9 ze9 (by intro v hv; simp only [List.mem_cons, List.not_mem_nil, or_false] at hv; rcases hv with rfl <;> first | rfl | simp [Value.cells]) rfl (by decide) rfl (fun b13 w35 F13 => ?_)
  have n_b0_b13 := F13.ne' hb0
  replace hb0 := F13.old hb0
  replace hb2 := F13.old hb2
  replace hb4 := F13.old hb4
  replace hx6 := Xs.fresh hx6 F13
  have hb13 : w35.heap[b13]? = some (.cells #[.string (⟨#[41]⟩ : ByteArray)] 9) := F13.new
  replace hR := hR.freshF F13
  replace hB := Fr.below hR hB0 hB0.size hSge
  refine At.call en78 rfl rfl (ptext_any us6 vr6 (.slice (some ⟨b13, 0, none⟩) 1 1) ([(⟨#[41]⟩ : ByteArray)]) _ hB hSge hts6 hb0 ((StrsAt.own (ss := [(⟨#[41]⟩ : ByteArray)]) hb13 rfl (by decide) : StrsAt _ (.slice (some ⟨b13, 0, none⟩) 1 1) [(⟨#[41]⟩ : ByteArray)])) (fun _ => show b13 ≠ b0 from n_b0_b13.symm) (PR.sub hg (by (try simp only [atomP, failP, SB, hc1, hc2, hc3, hc4, hc5, hc6, hc7, hq6]); repeat constructor))) (fun e wp7 hR' => ?_)
  obtain ⟨x7, us7, val7, vr7, hq7, rfl, hF7, hts7, hbo7, ho7⟩ := hR'
  refine ⟨_, rfl, ?_⟩
  replace hb2 := Fr.oldB hF7 hb2 (n_b0_b2.symm)
  replace hb4 := Fr.oldB hF7 hb4 (n_b0_b4.symm)
  replace hx6 := Xs.frS hx6 hF7 (by rintro k rfl; simp)
  replace hb0 := hbo7
  have hsz7 := hR.size
  replace hR := Fr.then hR hF7 (fun k hk => .inl hk)
  obtain rfl := ho7
  refine .ops0 (.inN (.thenN (.seq (.region (.load rfl (Ld.own ag31 (sz31.trans (congrArg some ((Xs.one hx6)).size.symm)) hb4) rfl ?_)))))
  refine At.storeAll rfl rfl hb2 (sz31.trans (congrArg some ((Xs.one hx6)).size.symm)) ((Xs.one hx6)).size.symm ((Xs.one hx6)).one (fun w36 S15 => ?_)
  replace hb0 := S15.other hb0 n_b0_b2
  replace hx6 := Xs.set hx6 S15 (by simp)
  replace hb2 : w36.heap[b2]? = some (.cells tm6.cs 31) := S15.new
  replace hR := hR.setF S15 (.inr gb2)
  refine .ops0 (.thenN (.retc (.doneR (ResV.cell rfl (Ld.own ag31 (sz31.trans (congrArg some ((Xs.one hx6)).size.symm)) hb2) ResV.nil) ?_)))
  exact RetP.ok (x := x6) (by simp only [atomP, failP, SB, hc1, hc2, hc3, hc4, hc5, hc6, hc7, hq6, hq7] <;> rfl) hR hts7 hb0 ⟨tm6, rfl, (Xs.one hx6), hmt6⟩
 refine .region (.load rfl (Ld.ownCell ag98 hb1 rfl) rfl ?_)
 exact (PR.no hg (by simp only [atomP, failP, SB, hc1, hc2, hc3, hc4, hc5, hc6] <;> rfl)).elim
theorem app_any {wB : World} {b0 : Nat} {en dp : Int} (ts : List Tk) (v : Value) (ex : List Tk → PR ST) (w : World) (hB0 : Below wB.heap.size wB w) (hSge : ∀ k, k = b0 → wB.heap.size ≤ k) (hts : RowsAt wB v 4 (ts.map Tk.cs)) (hb0 : w.heap[b0]? = some (.cells #[v, .int .i64 en, .int .i64 dp] 102)) (hbig : ts.length ≤ 100000000) (hxs : ∀ ts, (ex ts).Sh ts.length) (hex : ExC en dp ex) (hg : (appP en ex ts).isOk = true) :
  Calls Tryz.prog 113 ([.pointer (some ⟨b0, 0, none⟩)] : List Value).toArray w fun e w' => RetP (fun k => k = b0) wB b0 en dp (okT w) (appP en ex ts) w e w' := by
 have htl := hts.lenL
 have hR := Fr.refl (fun k => k = b0) w
 have hB := hB0
 refine At.enter (N := 26) Tryz.func113 rfl rfl (by simp) [(0, .pointer (some ⟨b0, 0, none⟩))] (by simp) ?_
 refine .seq (.region ?_)
 refine At.alloc ze31 rfl (fun b1 w1 F1 => ?_)
 have n_b0_b1 := F1.ne' hb0
 have gb1 := F1.gq hR.size
 replace hb0 := F1.old hb0
 have hb1 : w1.heap[b1]? = some (.cells #[zI, zI, zS, zS, zI, zN, zN, zI, zS, zI, zN, zN, zI, zN, zI, zI, zS, zI, zN, zN, zI] 31) := F1.new
 replace hR := hR.freshF F1
 replace hB := Fr.below hR hB0 hB0.size hSge
 refine .ops0 (.thenN (.seq (.region (.move rfl rfl ?_))))
 have hml1 : MLt w1.heap.size [some b0, some b1] := (MLt.blk hb0 (MLt.blk hb1 (MLt.nil _)))
 refine At.call en115 rfl rfl (atom_any ts v ex  _ hB hSge hts hb0 (hbig) hxs hex (PR.sub hg (by (try simp only [appP, appB, SB]); repeat constructor))) (fun e wp1 hR' => ?_)
 obtain ⟨x1, us1, val1, vr1, hq1, rfl, hF1, hts1, hbo1, ho1⟩ := hR'
 refine ⟨_, rfl, ?_⟩
 replace hb1 := Fr.oldB hF1 hb1 (n_b0_b1.symm)
 replace hb0 := hbo1
 have hsz1 := hR.size
 replace hR := Fr.then hR hF1 (fun k hk => .inl hk)
 obtain ⟨tm1, rfl, htm1, hmt1⟩ := ho1
 have hx1 := Xs.of_new (B := 0) (M := [some b0, some b1]) (K := kTm) htm1 (fun b hb => .inr (hmt1.blk b hb)) (fun _ _ => Nat.zero_le _) hml1
 replace hmt1 := hmt1.mono hsz1
 refine At.alloc ze31 rfl (fun b2 w2 F2 => ?_)
 have n_b0_b2 := F2.ne' hb0
 have n_b1_b2 := F2.ne' hb1
 have gb2 := F2.gq hR.size
 replace hb0 := F2.old hb0
 replace hb1 := F2.old hb1
 replace hx1 := Xs.fresh hx1 F2
 have hb2 : w2.heap[b2]? = some (.cells #[zI, zI, zS, zS, zI, zN, zN, zI, zS, zI, zN, zN, zI, zN, zI, zI, zS, zI, zN, zN, zI] 31) := F2.new
 replace hR := hR.freshF F2
 refine At.storeAll rfl rfl hb2 (sz31.trans (congrArg some ((Xs.one hx1)).size.symm)) ((Xs.one hx1)).size.symm ((Xs.one hx1)).one (fun w3 S1 => ?_)
 replace hb0 := S1.other hb0 n_b0_b2
 replace hb1 := S1.other hb1 n_b1_b2
 replace hx1 := Xs.set hx1 S1 (by simp)
 replace hb2 : w3.heap[b2]? = some (.cells tm1.cs 31) := S1.new
 replace hR := hR.setF S1 (.inr gb2)
 refine .ops0 (.thenN (.seq (.block ?_)))
 refine At.loop (List Tk × Value × Nat × Tm × ST) (fun (us, vr, f, tx, xs) => [(0, .pointer (some ⟨b0, 0, none⟩)), (2, .pointer (some ⟨b1, 0, none⟩)), (3, .pointer (some ⟨b2, 0, none⟩))]) (fun (us, vr, f, tx, xs) w4 => Fr (fun k => k = b0) w w4 ∧ w4.heap[b0]? = some (.cells #[vr, .int .i64 en, .int .i64 dp] 102) ∧ w4.heap[b1]? = some (.cells #[zI, zI, zS, zS, zI, zN, zN, zI, zS, zI, zN, zN, zI, zN, zI, zI, zS, zI, zN, zN, zI] 31) ∧ w4.heap[b2]? = some (.cells tx.cs 31) ∧ Xs kTm [some b0, some b1, some b2] w4 [tx] ∧ (RowsAt wB vr 4 (us.map Tk.cs)) ∧ (appP en ex ts = appL en ex f xs us) ∧ (us.length < f) ∧ (MT w xs tx) ∧ (us.length ≤ ts.length)) (fun (us, vr, f, tx, xs) => f) (us1, vr1, (us1.length + 1), tm1, x1) (sC rfl (sC rfl (sC rfl sN))) ⟨hR, hb0, hb1, hb2, (Xs.weaken (M' := [some b0, some b1, some b2]) hx1 (SubM.cons (.tail _ (.head _)) (SubM.cons (.tail _ (.tail _ (.head _))) (SubM.cons (.head _) SubM.nil)))), (hts1), (by simp only [appP, hq1, PR.bind_ok]), (Nat.lt_succ_self _), (hmt1), (Nat.le_of_lt (PR.Sh.of (atom_sh hxs ts) hq1))⟩ (fun gh w4 hI => ?_)
 obtain ⟨us, vr, f, tx, xs⟩ := gh
 clear hR hB hb0 hb1 hb2 hx1
 obtain ⟨hR, hb0, hb1, hb2, hxx, hus, hs, hfl, hmx, hle⟩ := hI
 show At _ _ [(0, .pointer (some ⟨b0, 0, none⟩)), (2, .pointer (some ⟨b1, 0, none⟩)), (3, .pointer (some ⟨b2, 0, none⟩))] _ _
 refine .seq (.seq (.region (.move rfl rfl (.nilCheck rfl rfl (.fieldAddr rfl fo102_0 rfl ?_)))))
 refine At.buildSlice (xs := [.const (.int .i64 1), .const (.int .i64 2), .const (.int .i64 3)]) rfl rfl el32 sz3 ze3 (by intro v hv; simp only [List.mem_cons, List.not_mem_nil, or_false] at hv; rcases hv with rfl | rfl | rfl <;> first | rfl | simp [Value.cells]) rfl (by decide) rfl (fun b3 w5 F3 => ?_)
 replace hb0 := F3.old hb0
 replace hb1 := F3.old hb1
 replace hb2 := F3.old hb2
 replace hxx := Xs.fresh hxx F3
 have hb3 : w5.heap[b3]? = some (.cells #[.int .i64 1, .int .i64 2, .int .i64 3] 3) := F3.new
 replace hR := hR.freshF F3
 replace hB := Fr.below hR hB0 hB0.size hSge
 refine At.call en84 rfl rfl (kind_any us vr (.slice (some ⟨b3, 0, none⟩) 3 3) ([1, 2, 3]) _ ((hus).keep hB) hb0 ((IntsAt.own (l := [1, 2, 3]) hb3 rfl (by decide) : IntsAt _ (.slice (some ⟨b3, 0, none⟩) 3 3) [1, 2, 3]))) (fun e w6 hR' => ?_)
 obtain ⟨rfl, hbl1⟩ := hR'
 refine ⟨_, rfl, ?_⟩
 replace hb0 := Below.old hbl1 hb0
 replace hb1 := Below.old hbl1 hb1
 replace hb2 := Below.old hbl1 hb2
 replace hb3 := Below.old hbl1 hb3
 replace hxx := Xs.below hxx hbl1
 replace hR := hR.callF hbl1
 replace hB := Fr.below hR hB0 hB0.size hSge
 refine .move rfl rfl ?_
 refine At.cases ((kdK en us ([1, 2, 3]))) (fun hg1 => ?_) (fun hg1 => ?_)
 ·skip
  refine .set (d := 11) (u := .bool true) rfl (congrArg Value.bool hg1) (.no rfl rfl rfl rfl rfl rfl rfl (.no rfl rfl rfl rfl rfl rfl rfl (.no rfl rfl rfl rfl rfl rfl rfl (.no rfl rfl rfl rfl rfl rfl rfl (.no rfl rfl rfl rfl rfl rfl rfl (.pickT rfl rfl rfl (.ops0 (.thenN (.condT rfl (.skip (.thenN (.block (.drawG (n := 8) mixed (by kernel_rfl) rfl (PanicOk.block (PanicOk.then (PanicOk.block (PanicOk.then PanicOk.body)))) ?_)))))))))))))
  have hR := Fr.drewF hR
  have hB := Below.drewB hB
  have hb0 : _ := (show w6.drew.heap[b0]? = _ from hb0)
  have hb1 : _ := (show w6.drew.heap[b1]? = _ from hb1)
  have hb2 : _ := (show w6.drew.heap[b2]? = _ from hb2)
  have hb3 : _ := (show w6.drew.heap[b3]? = _ from hb3)
  have hxx := Xs.drew hxx
  refine .wpcS (i := 0) (d := 18) (.pointer (some ⟨b2, 0 + 1, none⟩)) (by kernel_rfl) rfl rfl rfl (fun Lx => .fieldAddr rfl fo31_1 rfl (.ops0 fun a ha => ⟨ha, rfl⟩)) ?_
  refine .wpcS (i := 1) (d := 19) (.int .i64 tx.at_) (by kernel_rfl) rfl rfl rfl (fun Lx => .load rfl (Ld.ownCell ag3 hb2 ((Xs.one hxx)).c1) rfl (.ops0 fun a ha => ⟨ha, rfl⟩)) ?_
  refine .wpcS (i := 2) (d := 20) (.agg tx.cs) (by kernel_rfl) rfl rfl rfl (fun Lx => .load rfl (Ld.own ag31 (sz31.trans (congrArg some ((Xs.one hxx)).size.symm)) hb2) rfl (.ops0 fun a ha => ⟨ha, rfl⟩)) ?_
  refine .wpcS (i := 3) (d := 21) (.pointer (some ⟨b0, 0, none⟩)) (by kernel_rfl) rfl rfl rfl (fun Lx => .move rfl rfl (.ops0 fun a ha => ⟨ha, rfl⟩)) ?_
  refine At.wpcE [4] (by kernel_rfl) (by kernel_rfl) (.cons [0, 1, 2] rfl (by kernel_rfl) ?_ .nil)
  have hml2 : MLt w6.drew.heap.size [some b0, some b1, some b2, some b3] := (MLt.blk hb0 (MLt.blk hb1 (MLt.blk hb2 (MLt.blk hb3 (MLt.nil _)))))
  refine At.call en115 rfl rfl (atom_any us vr ex  _ hB hSge hus hb0 (by have hz := hbig; have := hle; omega) hxs hex (PR.sub hg (by obtain ⟨q, rfl⟩ : ∃ q, f = q + 1 := ⟨f - 1, by omega⟩; rw [hs, appL]; (try simp only [appP, appB, SB, hg1, hq1]); repeat constructor))) (fun e wp2 hR' => ?_)
  obtain ⟨x2, us2, val2, vr2, hq2, rfl, hF2, hts2, hbo2, ho2⟩ := hR'
  refine ⟨_, rfl, ?_⟩
  replace hb1 := Fr.oldB hF2 hb1 (n_b0_b1.symm)
  replace hb2 := Fr.oldB hF2 hb2 (n_b0_b2.symm)
  replace hxx := Xs.frS hxx hF2 (by rintro k rfl; simp)
  replace hb0 := hbo2
  have hsz2 := hR.size
  replace hR := Fr.then hR hF2 (fun k hk => .inl hk)
  obtain ⟨tm2, rfl, htm2, hmt2⟩ := ho2
  have hx2 := Xs.of_new (B := 0) (M := [some b0, some b1, some b2, some b3]) (K := kTm) htm2 (fun b hb => .inr (hmt2.blk b hb)) (fun _ _ => Nat.zero_le _) hml2
  replace hmt2 := hmt2.mono hsz2
  refine .ops0 ?_
  refine At.wpcN (.cons rfl rfl rfl rfl (fun Lx => ?_) (.cons rfl rfl rfl rfl (fun Lx => ?_) (.cons rfl rfl rfl rfl (fun Lx => ?_) .nil))) ?_
  ·skip
   exact .fieldAddr rfl fo31_1 rfl (.ops0 fun a ha => ⟨ha, rfl⟩)
  ·skip
   exact .load rfl (Ld.ownCell ag3 hb2 ((Xs.one hxx)).c1) rfl (.ops0 fun a ha => ⟨ha, rfl⟩)
  ·skip
   exact .load rfl (Ld.own ag31 (sz31.trans (congrArg some ((Xs.one hxx)).size.symm)) hb2) rfl (.ops0 fun a ha => ⟨ha, rfl⟩)
  refine At.wpcE [5] (by kernel_rfl) (by kernel_rfl) (.cons [0, 1] rfl (by kernel_rfl) ?_ .nil)
  refine At.buildSlice (xs := [.tmp 20, .tmp 22]) rfl rfl el22 sz31 ze31 (by intro v hv; simp only [List.mem_cons, List.not_mem_nil, or_false] at hv; rcases hv with rfl | rfl <;> first | rfl | simp [Value.cells, ((Xs.one hxx)).size, ((Xs.one hx2)).size]) rfl (by decide) rfl (fun b4 w7 F4 => ?_)
  have n_b0_b4 := F4.ne' hb0
  have n_b1_b4 := F4.ne' hb1
  have n_b2_b4 := F4.ne' hb2
  have gb4 := F4.gq hR.size
  replace hb0 := F4.old hb0
  replace hb1 := F4.old hb1
  replace hb2 := F4.old hb2
  replace hxx := Xs.fresh hxx F4
  replace hx2 := Xs.fresh hx2 F4
  have hb4 : w7.heap[b4]? = some (.cells (([tx, tm2].map Tm.cs).flatMap (·.toList)).toArray 31) := F4.new
  replace hR := hR.freshF F4
  refine .ops0 ?_
  refine At.wpcN (.cons rfl rfl rfl rfl (fun Lx => ?_) (.cons rfl rfl rfl rfl (fun Lx => ?_) .nil)) ?_
  ·skip
   exact .fieldAddr rfl fo31_1 rfl (.ops0 fun a ha => ⟨ha, rfl⟩)
  ·skip
   exact .load rfl (Ld.ownCell ag3 hb2 ((Xs.one hxx)).c1) rfl (.ops0 fun a ha => ⟨ha, rfl⟩)
  refine .wpcS (i := 6) (d := 24) (.agg #[.int .i64 6, .int .i64 tx.at_, zS, zS, zI, (.slice (some ⟨b4, 0, none⟩) 2 2), zN, zI, zS, zI, zN, zN, zI, zN, zI, zI, zS, zI, zN, zN, zI]) (by kernel_rfl) rfl rfl rfl (fun Lx => .build (C := #[.int .i64 6, .int .i64 tx.at_, zS, zS, zI, (.slice (some ⟨b4, 0, none⟩) 2 2), zN, zI, zS, zI, zN, zN, zI, zN, zI, zI, zS, zI, zN, zN, zI]) sd31 ze31 rfl (Bld.cons fo31_0 rfl (lB rfl) (Bld.cons fo31_1 rfl (lB rfl) (Bld.cons fo31_5 rfl (lB rfl) (Bld.nil _)))) rfl (.ops0 fun a ha => ⟨ha, rfl⟩)) ?_
  refine At.wpcE [7] (by kernel_rfl) (by kernel_rfl) (.cons [] rfl (by kernel_rfl) ?_ .nil)
  refine At.storeAll rfl rfl hb2 sz31 ((Xs.one hxx)).size (by first | (simp [Value.oneCell', ((SlOk.nil)).one]; done) | (simp only [List.all_toArray, List.all_cons, List.all_nil, ((SlOk.nil)).one, Bool.and_true, Bool.true_and] <;> rfl)) (fun w8 S2 => ?_)
  replace hb0 := S2.other hb0 n_b0_b2
  replace hb1 := S2.other hb1 n_b1_b2
  replace hb4 := S2.other hb4 n_b2_b4.symm
  replace hxx := Xs.set hxx S2 (by simp)
  replace hx2 := Xs.set hx2 S2 (by simp)
  replace hb2 : w8.heap[b2]? = some (.cells #[.int .i64 6, .int .i64 tx.at_, zS, zS, zI, (.slice (some ⟨b4, 0, none⟩) 2 2), zN, zI, zS, zI, zN, zN, zI, zN, zI, zI, zS, zI, zN, zN, zI] 31) := S2.new
  replace hR := hR.setF S2 (.inr gb2)
  refine .ops0 (.wpcN .nil (.wpcZ (.inN (.thenN ?_))))
  exact fun act_ hact_ => ⟨(us2, vr2, (f - 1), (tmA 6 tx.at_ (⟨#[]⟩ : ByteArray) (⟨#[]⟩ : ByteArray) 0 (.slice (some ⟨b4, 0, none⟩) 2 2) [tx, tm2] zN []), (ST.mk 6 xs.at_ (⟨#[]⟩ : ByteArray) (⟨#[]⟩ : ByteArray) 0 [xs, x2] [])), hact_.sub (sC rfl (sC rfl (sC rfl sN))), ⟨hR, hb0, hb1, hb2, (Xs.mkT (Xs.cons (Xs.weaken (M' := [some b0, some b1, some b2]) hxx (SubM.cons (.tail _ (.tail _ (.head _))) (SubM.cons (.tail _ (.tail _ (.tail _ (.head _)))) (SubM.cons (.tail _ (.tail _ (.tail _ (.tail _ (.head _))))) SubM.nil)))) (Xs.cons (Xs.weaken (M' := [some b0, some b1, some b2]) hx2 (SubM.cons (.tail _ (.head _)) (SubM.cons (.tail _ (.tail _ (.head _))) (SubM.cons (.tail _ (.tail _ (.tail _ (.head _)))) SubM.nil)))) (Xs.nil _ _ _))) (Xs.nil kAm [some b0, some b1, some b2] _) (rows_tm (m := 2) hb4 (mem2 (Q := fun u => TmOk w8 u) (((Xs.one hxx)).keep (Below.refl _ _)) (((Xs.one hx2)).keep (Below.refl _ _))) rfl (by decide)) (RowsAt.nil _ 23) (fun _ => (show some b4 ∉ _ from (NI.cons n_b0_b4 (NI.cons n_b1_b4 (NI.cons n_b2_b4 (NI.nil _)))))) (fun h => absurd rfl h)), (hts2), (by obtain ⟨q, rfl⟩ : ∃ q, f = q + 1 := ⟨f - 1, by omega⟩; rw [hs, appL]; simp only [appB, cond_true, hg1, hq1, hq2, Bool.true_or, Bool.or_true, Bool.false_or, Bool.or_false, PR.bind_ok]; rfl), (by have := hle; have := PR.Sh.of (atom_sh hxs us) hq2; omega), ((MT.atEq (MT.made (k := 6) (a := tx.at_) (nm := (⟨#[]⟩ : ByteArray)) (pm := (⟨#[]⟩ : ByteArray)) (n := 0) (MTL.two hmx hmt2) (MAL.nil w) (fun _ => gb4) (fun h => absurd rfl h)) (shT_at hmx))), (by have := hle; have := PR.Sh.of (atom_sh hxs us) hq2; omega)⟩, by first | omega | (dsimp only; omega)⟩
 refine .set (d := 11) (u := .bool false) rfl (congrArg Value.bool hg1) (.yes rfl rfl rfl rfl (.move rfl rfl (.yes rfl rfl rfl rfl (.nilCheck rfl rfl (.yes rfl rfl rfl rfl (.fieldAddr rfl fo102_0 rfl (.yes rfl rfl rfl rfl ?_)))))))
 refine At.buildSlice (xs := [.const (.string (⟨#[116, 114, 117, 101]⟩ : ByteArray)), .const (.string (⟨#[102, 97, 108, 115, 101]⟩ : ByteArray)), .const (.string (⟨#[40]⟩ : ByteArray)), .const (.string (⟨#[114, 101, 97, 100]⟩ : ByteArray))]) rfl rfl el25 sz9 ze9 (by intro v hv; simp only [List.mem_cons, List.not_mem_nil, or_false] at hv; rcases hv with rfl | rfl | rfl | rfl <;> first | rfl | simp [Value.cells]) rfl (by decide) rfl (fun b5 w9 F5 => ?_)
 replace hb0 := F5.old hb0
 replace hb1 := F5.old hb1
 replace hb2 := F5.old hb2
 replace hb3 := F5.old hb3
 replace hxx := Xs.fresh hxx F5
 have hb5 : w9.heap[b5]? = some (.cells #[.string (⟨#[116, 114, 117, 101]⟩ : ByteArray), .string (⟨#[102, 97, 108, 115, 101]⟩ : ByteArray), .string (⟨#[40]⟩ : ByteArray), .string (⟨#[114, 101, 97, 100]⟩ : ByteArray)] 9) := F5.new
 replace hR := hR.freshF F5
 replace hB := Fr.below hR hB0 hB0.size hSge
 refine .yes rfl rfl rfl rfl ?_
 refine At.call en59 rfl rfl (is_any us vr (.slice (some ⟨b5, 0, none⟩) 4 4) ([(⟨#[116, 114, 117, 101]⟩ : ByteArray), (⟨#[102, 97, 108, 115, 101]⟩ : ByteArray), (⟨#[40]⟩ : ByteArray), (⟨#[114, 101, 97, 100]⟩ : ByteArray)]) _ ((hus).keep hB) hb0 ((StrsAt.own (ss := [(⟨#[116, 114, 117, 101]⟩ : ByteArray), (⟨#[102, 97, 108, 115, 101]⟩ : ByteArray), (⟨#[40]⟩ : ByteArray), (⟨#[114, 101, 97, 100]⟩ : ByteArray)]) hb5 rfl (by decide) : StrsAt _ (.slice (some ⟨b5, 0, none⟩) 4 4) [(⟨#[116, 114, 117, 101]⟩ : ByteArray), (⟨#[102, 97, 108, 115, 101]⟩ : ByteArray), (⟨#[40]⟩ : ByteArray), (⟨#[114, 101, 97, 100]⟩ : ByteArray)]))) (fun e w10 hR' => ?_)
 obtain ⟨rfl, hbl2⟩ := hR'
 refine ⟨_, rfl, ?_⟩
 replace hb0 := Below.old hbl2 hb0
 replace hb1 := Below.old hbl2 hb1
 replace hb2 := Below.old hbl2 hb2
 replace hb3 := Below.old hbl2 hb3
 replace hb5 := Below.old hbl2 hb5
 replace hxx := Xs.below hxx hbl2
 replace hR := hR.callF hbl2
 replace hB := Fr.below hR hB0 hB0.size hSge
 refine .pickF rfl rfl rfl (.ops0 (.thenN ?_))
 refine At.cond (b := (isK en us ([(⟨#[116, 114, 117, 101]⟩ : ByteArray), (⟨#[102, 97, 108, 115, 101]⟩ : ByteArray), (⟨#[40]⟩ : ByteArray), (⟨#[114, 101, 97, 100]⟩ : ByteArray)]))) rfl (fun hc1 => ?_) (fun hc1 => ?_)
 ·skip
  refine .skip (.thenN (.block (.drawG (n := 8) mixed (by kernel_rfl) rfl (PanicOk.block (PanicOk.then (PanicOk.block (PanicOk.then PanicOk.body)))) ?_)))
  have hR := Fr.drewF hR
  have hB := Below.drewB hB
  have hb0 : _ := (show w10.drew.heap[b0]? = _ from hb0)
  have hb1 : _ := (show w10.drew.heap[b1]? = _ from hb1)
  have hb2 : _ := (show w10.drew.heap[b2]? = _ from hb2)
  have hb3 : _ := (show w10.drew.heap[b3]? = _ from hb3)
  have hb5 : _ := (show w10.drew.heap[b5]? = _ from hb5)
  have hxx := Xs.drew hxx
  refine .wpcS (i := 0) (d := 18) (.pointer (some ⟨b2, 0 + 1, none⟩)) (by kernel_rfl) rfl rfl rfl (fun Lx => .fieldAddr rfl fo31_1 rfl (.ops0 fun a ha => ⟨ha, rfl⟩)) ?_
  refine .wpcS (i := 1) (d := 19) (.int .i64 tx.at_) (by kernel_rfl) rfl rfl rfl (fun Lx => .load rfl (Ld.ownCell ag3 hb2 ((Xs.one hxx)).c1) rfl (.ops0 fun a ha => ⟨ha, rfl⟩)) ?_
  refine .wpcS (i := 2) (d := 20) (.agg tx.cs) (by kernel_rfl) rfl rfl rfl (fun Lx => .load rfl (Ld.own ag31 (sz31.trans (congrArg some ((Xs.one hxx)).size.symm)) hb2) rfl (.ops0 fun a ha => ⟨ha, rfl⟩)) ?_
  refine .wpcS (i := 3) (d := 21) (.pointer (some ⟨b0, 0, none⟩)) (by kernel_rfl) rfl rfl rfl (fun Lx => .move rfl rfl (.ops0 fun a ha => ⟨ha, rfl⟩)) ?_
  refine At.wpcE [4] (by kernel_rfl) (by kernel_rfl) (.cons [0, 1, 2] rfl (by kernel_rfl) ?_ .nil)
  have hml3 : MLt w10.drew.heap.size [some b0, some b1, some b2, some b3, some b5] := (MLt.blk hb0 (MLt.blk hb1 (MLt.blk hb2 (MLt.blk hb3 (MLt.blk hb5 (MLt.nil _))))))
  refine At.call en115 rfl rfl (atom_any us vr ex  _ hB hSge hus hb0 (by have hz := hbig; have := hle; omega) hxs hex (PR.sub hg (by obtain ⟨q, rfl⟩ : ∃ q, f = q + 1 := ⟨f - 1, by omega⟩; rw [hs, appL]; (try simp only [appP, appB, SB, hg1, hc1, hq1]); repeat constructor))) (fun e wp3 hR' => ?_)
  obtain ⟨x3, us3, val3, vr3, hq3, rfl, hF3, hts3, hbo3, ho3⟩ := hR'
  refine ⟨_, rfl, ?_⟩
  replace hb1 := Fr.oldB hF3 hb1 (n_b0_b1.symm)
  replace hb2 := Fr.oldB hF3 hb2 (n_b0_b2.symm)
  replace hxx := Xs.frS hxx hF3 (by rintro k rfl; simp)
  replace hb0 := hbo3
  have hsz3 := hR.size
  replace hR := Fr.then hR hF3 (fun k hk => .inl hk)
  obtain ⟨tm3, rfl, htm3, hmt3⟩ := ho3
  have hx3 := Xs.of_new (B := 0) (M := [some b0, some b1, some b2, some b3, some b5]) (K := kTm) htm3 (fun b hb => .inr (hmt3.blk b hb)) (fun _ _ => Nat.zero_le _) hml3
  replace hmt3 := hmt3.mono hsz3
  refine .ops0 ?_
  refine At.wpcN (.cons rfl rfl rfl rfl (fun Lx => ?_) (.cons rfl rfl rfl rfl (fun Lx => ?_) (.cons rfl rfl rfl rfl (fun Lx => ?_) .nil))) ?_
  ·skip
   exact .fieldAddr rfl fo31_1 rfl (.ops0 fun a ha => ⟨ha, rfl⟩)
  ·skip
   exact .load rfl (Ld.ownCell ag3 hb2 ((Xs.one hxx)).c1) rfl (.ops0 fun a ha => ⟨ha, rfl⟩)
  ·skip
   exact .load rfl (Ld.own ag31 (sz31.trans (congrArg some ((Xs.one hxx)).size.symm)) hb2) rfl (.ops0 fun a ha => ⟨ha, rfl⟩)
  refine At.wpcE [5] (by kernel_rfl) (by kernel_rfl) (.cons [0, 1] rfl (by kernel_rfl) ?_ .nil)
  refine At.buildSlice (xs := [.tmp 20, .tmp 22]) rfl rfl el22 sz31 ze31 (by intro v hv; simp only [List.mem_cons, List.not_mem_nil, or_false] at hv; rcases hv with rfl | rfl <;> first | rfl | simp [Value.cells, ((Xs.one hxx)).size, ((Xs.one hx3)).size]) rfl (by decide) rfl (fun b6 w11 F6 => ?_)
  have n_b0_b6 := F6.ne' hb0
  have n_b1_b6 := F6.ne' hb1
  have n_b2_b6 := F6.ne' hb2
  have gb6 := F6.gq hR.size
  replace hb0 := F6.old hb0
  replace hb1 := F6.old hb1
  replace hb2 := F6.old hb2
  replace hxx := Xs.fresh hxx F6
  replace hx3 := Xs.fresh hx3 F6
  have hb6 : w11.heap[b6]? = some (.cells (([tx, tm3].map Tm.cs).flatMap (·.toList)).toArray 31) := F6.new
  replace hR := hR.freshF F6
  refine .ops0 ?_
  refine At.wpcN (.cons rfl rfl rfl rfl (fun Lx => ?_) (.cons rfl rfl rfl rfl (fun Lx => ?_) .nil)) ?_
  ·skip
   exact .fieldAddr rfl fo31_1 rfl (.ops0 fun a ha => ⟨ha, rfl⟩)
  ·skip
   exact .load rfl (Ld.ownCell ag3 hb2 ((Xs.one hxx)).c1) rfl (.ops0 fun a ha => ⟨ha, rfl⟩)
  refine .wpcS (i := 6) (d := 24) (.agg #[.int .i64 6, .int .i64 tx.at_, zS, zS, zI, (.slice (some ⟨b6, 0, none⟩) 2 2), zN, zI, zS, zI, zN, zN, zI, zN, zI, zI, zS, zI, zN, zN, zI]) (by kernel_rfl) rfl rfl rfl (fun Lx => .build (C := #[.int .i64 6, .int .i64 tx.at_, zS, zS, zI, (.slice (some ⟨b6, 0, none⟩) 2 2), zN, zI, zS, zI, zN, zN, zI, zN, zI, zI, zS, zI, zN, zN, zI]) sd31 ze31 rfl (Bld.cons fo31_0 rfl (lB rfl) (Bld.cons fo31_1 rfl (lB rfl) (Bld.cons fo31_5 rfl (lB rfl) (Bld.nil _)))) rfl (.ops0 fun a ha => ⟨ha, rfl⟩)) ?_
  refine At.wpcE [7] (by kernel_rfl) (by kernel_rfl) (.cons [] rfl (by kernel_rfl) ?_ .nil)
  refine At.storeAll rfl rfl hb2 sz31 ((Xs.one hxx)).size (by first | (simp [Value.oneCell', ((SlOk.nil)).one]; done) | (simp only [List.all_toArray, List.all_cons, List.all_nil, ((SlOk.nil)).one, Bool.and_true, Bool.true_and] <;> rfl)) (fun w12 S3 => ?_)
  replace hb0 := S3.other hb0 n_b0_b2
  replace hb1 := S3.other hb1 n_b1_b2
  replace hb6 := S3.other hb6 n_b2_b6.symm
  replace hxx := Xs.set hxx S3 (by simp)
  replace hx3 := Xs.set hx3 S3 (by simp)
  replace hb2 : w12.heap[b2]? = some (.cells #[.int .i64 6, .int .i64 tx.at_, zS, zS, zI, (.slice (some ⟨b6, 0, none⟩) 2 2), zN, zI, zS, zI, zN, zN, zI, zN, zI, zI, zS, zI, zN, zN, zI] 31) := S3.new
  replace hR := hR.setF S3 (.inr gb2)
  refine .ops0 (.wpcN .nil (.wpcZ (.inN (.thenN ?_))))
  exact fun act_ hact_ => ⟨(us3, vr3, (f - 1), (tmA 6 tx.at_ (⟨#[]⟩ : ByteArray) (⟨#[]⟩ : ByteArray) 0 (.slice (some ⟨b6, 0, none⟩) 2 2) [tx, tm3] zN []), (ST.mk 6 xs.at_ (⟨#[]⟩ : ByteArray) (⟨#[]⟩ : ByteArray) 0 [xs, x3] [])), hact_.sub (sC rfl (sC rfl (sC rfl sN))), ⟨hR, hb0, hb1, hb2, (Xs.mkT (Xs.cons (Xs.weaken (M' := [some b0, some b1, some b2]) hxx (SubM.cons (.tail _ (.tail _ (.tail _ (.head _)))) (SubM.cons (.tail _ (.tail _ (.tail _ (.tail _ (.head _))))) (SubM.cons (.tail _ (.tail _ (.tail _ (.tail _ (.tail _ (.head _)))))) SubM.nil)))) (Xs.cons (Xs.weaken (M' := [some b0, some b1, some b2]) hx3 (SubM.cons (.tail _ (.head _)) (SubM.cons (.tail _ (.tail _ (.head _))) (SubM.cons (.tail _ (.tail _ (.tail _ (.head _)))) SubM.nil)))) (Xs.nil _ _ _))) (Xs.nil kAm [some b0, some b1, some b2] _) (rows_tm (m := 2) hb6 (mem2 (Q := fun u => TmOk w12 u) (((Xs.one hxx)).keep (Below.refl _ _)) (((Xs.one hx3)).keep (Below.refl _ _))) rfl (by decide)) (RowsAt.nil _ 23) (fun _ => (show some b6 ∉ _ from (NI.cons n_b0_b6 (NI.cons n_b1_b6 (NI.cons n_b2_b6 (NI.nil _)))))) (fun h => absurd rfl h)), (hts3), (by obtain ⟨q, rfl⟩ : ∃ q, f = q + 1 := ⟨f - 1, by omega⟩; rw [hs, appL]; simp only [appB, cond_true, hg1, hc1, hq1, hq3, Bool.true_or, Bool.or_true, Bool.false_or, Bool.or_false, PR.bind_ok]; rfl), (by have := hle; have := PR.Sh.of (atom_sh hxs us) hq3; omega), ((MT.atEq (MT.made (k := 6) (a := tx.at_) (nm := (⟨#[]⟩ : ByteArray)) (pm := (⟨#[]⟩ : ByteArray)) (n := 0) (MTL.two hmx hmt3) (MAL.nil w) (fun _ => gb6) (fun h => absurd rfl h)) (shT_at hmx))), (by have := hle; have := PR.Sh.of (atom_sh hxs us) hq3; omega)⟩, by first | omega | (dsimp only; omega)⟩
 refine .exit (.thenE (.thenE (.inE (.thenN (.seq (.region (.load rfl (Ld.own ag31 (sz31.trans (congrArg some ((Xs.one hxx)).size.symm)) hb2) rfl ?_)))))))
 refine At.storeAll rfl rfl hb1 (sz31.trans (congrArg some ((Xs.one hxx)).size.symm)) ((Xs.one hxx)).size.symm ((Xs.one hxx)).one (fun w13 S4 => ?_)
 replace hb0 := S4.other hb0 n_b0_b1
 replace hxx := Xs.set hxx S4 (by simp)
 replace hb1 : w13.heap[b1]? = some (.cells tx.cs 31) := S4.new
 replace hR := hR.setF S4 (.inr gb1)
 refine .ops0 (.thenN (.retc (.doneR (ResV.cell rfl (Ld.own ag31 (sz31.trans (congrArg some ((Xs.one hxx)).size.symm)) hb1) ResV.nil) ?_)))
 exact RetP.ok (x := xs) (by obtain ⟨q, rfl⟩ : ∃ q, f = q + 1 := ⟨f - 1, by omega⟩; rw [hs, appL]; simp only [appP, appB, SB, hg1, hc1, hq1] <;> rfl) hR hus hb0 ⟨tx, rfl, (Xs.one hxx), hmx⟩
def Wd (F : Fence) : Prop := F = Fence.wide ∨ ∃ l, F = Fence.wide.inRound l
theorem Wd.fn {F : Fence} (h : Wd F) (f : FuncId) : F.fn f := by rcases h with rfl | ⟨l, rfl⟩ <;> trivial
theorem Wd.depth {F : Fence} (h : Wd F) : F.depth = none := by rcases h with rfl | ⟨l, rfl⟩ <;> rfl
theorem Wd.calls {F : Fence} (h : Wd F) {n : Nat} {P : Program} {f : FuncId} {args : Array Value} {w : World} {R : Ending → World → Prop} (hc : Calls P f args w R) : CallsIn F n P f args w R := by
  rcases h with rfl | ⟨l, rfl⟩
  · exact callsIn_wide.2 hc
  · exact CallsIn.inRound l (callsIn_wide.2 hc)
theorem rowsIn_wide {n : Nat} {P : Program} {row : String} {args : Array Value} {w : World} {R : Value → World → Prop} (h : Rows P row args w R) : RowsIn Fence.wide n P row args w R :=
  fun c cs _ => let ⟨v, w', r, s⟩ := h c cs; ⟨v, w', r, stepsIn_wide.2 s⟩
theorem Wd.rows {F : Fence} (h : Wd F) {n : Nat} {P : Program} {row : String} {args : Array Value} {w : World} {R : Value → World → Prop} (hc : Rows P row args w R) : RowsIn F n P row args w R := by
  rcases h with rfl | ⟨l, rfl⟩
  · exact rowsIn_wide hc
  · exact (rowsIn_wide (n := n) hc : RowsIn Fence.wide n P row args w R)
def noDef (o : Oper) : Bool := match o.op with | .defer _ => false | _ => true
theorem noDef_ne {o : Oper} (h : noDef o = true) : ∀ c, o.op ≠ .defer c := fun c e => by simp [noDef, e] at h
section
variable {F : Fence} {n : Nat} {P : Program} {N : Nat} {ds : List Deferred} {L : List (Nat × Value)} {w : World} {ops : Array Oper} {Q : Exit → Act → World → Prop} {rest : List Oper} {d : Nat}
  {ty : TypeId} {pos : String} {aft : Array Edge} {x : Operand}
theorem wp_in {o : Oper} {a : Act} {next next' : Act → World → Prop} {K : Act → World → Prop} (hF : Wd F) (hd : noDef o = true) (hQ : ∀ a w, ¬ Q .outgrown a w) (h : o.wp P a w next (onNormal K Q)) (hn : ∀ a w, next a w → next' a w) : o.wpIn F n P a w next' Q := by
  unfold Oper.wp at h
  refine ⟨fun f _ => hF.fn f, ?_⟩
  rw [Oper.semAt_eq _ _ _ (noDef_ne hd)]
  have hdep : F.depth.isSome = true → 1 ≤ n := fun e => by rw [hF.depth] at e; cases e
  cases hr : (execOp a.eval o).run P w with
  | ok v w' =>
    rw [hr] at h
    cases v with
    | value v => exact hn _ _ h
    | skip => exact hn _ _ h
    | defer d => exact hn _ _ h
    | enter f args =>
      refine ⟨hdep, (hF.calls (Calls.mono h fun e w'' hq => ?_))⟩
      cases e with
      | returned v => exact hn _ _ hq
      | panicked ch => exact hq
      | outgrown => obtain ⟨a1, w1, h1⟩ := hq; exact absurd h1 (hQ _ _)
    | row r args => exact ⟨hdep, hF.rows (Rows.mono h fun v w'' hq => hn _ _ hq)⟩
    | _ => exact h.elim
  | halt r w' =>
    rw [hr] at h
    cases r with
    | panic v => exact h
    | _ => exact h.elim
theorem list_in (hF : Wd F) (hQ : ∀ a w, ¬ Q .outgrown a w) : ∀ (l : List Oper), l.all noDef = true → ∀ a w, wpList P ops (onNormal (wpListIn F n P ops Q rest) Q) l a w → wpListIn F n P ops Q (l ++ rest) a w := by
  intro l
  induction l with
  | nil => intro _ a w h; exact h
  | cons o l ih =>
    intro hd a w h
    simp only [List.all_cons, Bool.and_eq_true] at hd
    simp only [wpList] at h
    show (if Region.wanted o (yielded ops a.tmps) then _ else _)
    split at h
    · rename_i hw
      rw [if_pos hw]
      rcases h with h | ⟨_, a1, w1, h1⟩
      · exact wp_in hF hd.1 hQ h (fun a w h => ih hd.2 a w h)
      · exact absurd h1 (hQ _ _)
    · rename_i hw
      rw [if_neg hw]
      exact ⟨fun f _ => hF.fn f, ih hd.2 _ _ h⟩
theorem AtI.region {id : Nat} {l : List Oper} (hF : Wd F) (hQ : ∀ a w, ¬ Q .outgrown a w) (hd : l.all noDef = true) (h : At N ds L (wpList P l.toArray Q l) w) : At N ds L ((Code.region id l.toArray false).wpIn F n P Q) w := fun a ha => by
  refine wpIn_region_lit ?_
  have e : onNormal (wpListIn F n P l.toArray Q []) Q = Q := by funext e; cases e <;> rfl
  have := list_in (n := n) (rest := []) (ops := l.toArray) hF hQ l hd a w (by rw [e]; exact h a ha)
  rwa [List.append_nil] at this
theorem AtI.split {id : Nat} {l l1 l2 : List Oper} (hl : l = l1 ++ l2) (hF : Wd F) (hQ : ∀ a w, ¬ Q .outgrown a w) (hd : l1.all noDef = true) (h : At N ds L (wpList P l.toArray (onNormal (wpListIn F n P l.toArray Q l2) Q) l1) w) : At N ds L ((Code.region id l.toArray false).wpIn F n P Q) w := fun a ha => by
  refine wpIn_region_lit ?_
  have := list_in (n := n) (rest := l2) (ops := l.toArray) hF hQ l1 hd a w (h a ha)
  rwa [← hl] at this
theorem AtI.last {l : List Oper} (hF : Wd F) (hQ : ∀ a w, ¬ Q .outgrown a w) (hd : l.all noDef = true) (h : At N ds L (wpList P ops Q l) w) : At N ds L (wpListIn F n P ops Q l) w := fun a ha => by
  have e : onNormal (wpListIn F n P ops Q []) Q = Q := by funext e; cases e <;> rfl
  have := list_in (n := n) (rest := []) (ops := ops) hF hQ l hd a w (by rw [e]; exact h a ha)
  rwa [List.append_nil] at this
theorem AtI.seq {c c' : Code} (h : At N ds L (c.wpIn F n P (Exit.then (c'.wpIn F n P Q) Q)) w) : At N ds L ((Code.seq c c').wpIn F n P Q) w := fun a ha => wpIn_seq (h a ha)
theorem AtI.skip (h : At N ds L (Q .normal) w) : At N ds L (Code.skip.wpIn F n P Q) w := fun a ha => wpIn_skip (h a ha)
theorem AtI.exit {id : Nat} (h : At N ds L (Q (.exit id)) w) : At N ds L ((Code.exit id).wpIn F n P Q) w := fun a ha => wpIn_exit (h a ha)
theorem AtI.retc (h : At N ds L (Q .ret) w) : At N ds L (Code.ret.wpIn F n P Q) w := fun a ha => wpIn_ret (h a ha)
theorem AtI.block {id : Nat} {c : Code} (h : At N ds L (c.wpIn F n P (Exit.inBlock id Q)) w) : At N ds L ((Code.block id c).wpIn F n P Q) w := fun a ha => wpIn_block (h a ha)
theorem AtI.cond {c : Operand} {y z : Code} {b : Bool} (hc : ev L c = some (.bool b)) (ht : b = true → At N ds L (y.wpIn F n P Q) w) (hf : b = false → At N ds L (z.wpIn F n P Q) w) : At N ds L ((Code.cond c y z).wpIn F n P Q) w :=
  fun a ha => wpIn_cond_split (ha.ev hc) (fun e => ht e a ha) (fun e => hf e a ha)
theorem AtI.condT {c : Operand} {y z : Code} (hc : ev L c = some (.bool true)) (h : At N ds L (y.wpIn F n P Q) w) : At N ds L ((Code.cond c y z).wpIn F n P Q) w := fun a ha => wpIn_cond_true (ha.ev hc) (h a ha)
theorem AtI.condF {c : Operand} {y z : Code} (hc : ev L c = some (.bool false)) (h : At N ds L (z.wpIn F n P Q) w) : At N ds L ((Code.cond c y z).wpIn F n P Q) w := fun a ha => wpIn_cond_false (ha.ev hc) (h a ha)
theorem AtI.loop {c : Code} (ι : Type) (T : ι → List (Nat × Value)) (I : ι → World → Prop) (μ : ι → Nat) (i0 : ι) (hs : Sub L (T i0)) (h0 : I i0 w)
    (round : ∀ i w, I i w → At N ds (T i) (c.wpIn F n P (Exit.then (fun a' w' => ∃ i', Is N ds (T i') a' ∧ I i' w' ∧ μ i' < μ i) Q)) w) : At N ds L ((Code.loop c).wpIn F n P Q) w := by
  intro a ha
  intro b k cs hro hb hr
  have key : ∀ j i, μ i = j → ∀ a w, Is N ds (T i) a → I i w →
      ∃ e a' w', Q e a' w' ∧ ArrivesIn (Machine.fenced P F) P (lone (b.atR a (.code c :: .inLoop c :: k)) cs w) b k cs e a' w' := by
    intro j
    induction j using Nat.strongRecOn with
    | _ j ih =>
      intro i hn a w hI hw
      obtain ⟨e, a₁, w₁, hq, harr⟩ := round i w hw a hI b (.inLoop c :: k) cs hro hb hr
      cases e with
      | normal =>
        obtain ⟨i', h1, h2, hlt⟩ := hq
        obtain ⟨e₂, a₂, w₂, hq₂, harr₂⟩ := ih (μ i') (hn ▸ hlt) i' rfl a₁ w₁ h1 h2
        exact ⟨e₂, a₂, w₂, hq₂, .of_steps (StepsIn.trans harr (.one (fenced_calm hb hr rfl) stepR_inLoop)) harr₂⟩
      | exit id => exact ⟨_, a₁, w₁, hq, .pass (x := .inLoop c) rfl (fun _ _ => .inl (by simp)) harr⟩
      | goto l => exact ⟨_, a₁, w₁, hq, .pass (x := .inLoop c) rfl (fun _ _ => .inl (by simp)) harr⟩
      | ret => exact ⟨_, a₁, w₁, hq, .pass (x := .inLoop c) rfl (fun _ _ => .inl (by simp)) harr⟩
      | panic ch => exact ⟨_, a₁, w₁, hq, .pass (x := .inLoop c) rfl (fun _ _ => .inl (by simp)) harr⟩
      | outgrown => exact ⟨_, a₁, w₁, hq, .pass (x := .inLoop c) rfl (fun _ _ => .inl (by simp)) harr⟩
  obtain ⟨e, a', w', hq, harr⟩ := key _ i0 rfl a w (ha.sub hs) h0
  exact ⟨e, a', w', hq, .of_steps (.one (fenced_calm hb hr rfl) stepR_loop) harr⟩
theorem AtI.yield {l : Nat} {args : Array Operand} {tys : Array TypeId} {vs : List Value} {R : Ending → World → Prop} (hF : Wd F) (hx : ev L x = some (.func (.yield l) #[] #[])) (ha : evs L args.toList = some vs) (hN : Nat.blt d N = true)
    (hy : YieldAt F (n - 1) P l vs.toArray w R) (k : ∀ e w', R e w' → ∃ v, e = .returned v ∧ At N ds ((d, v) :: L) (wpListIn F n P ops Q rest) w') :
    At N ds L (wpListIn F n P ops Q (⟨some d, .call ⟨.value x, args, tys⟩, ty, pos, aft, none⟩ :: rest)) w := fun a hi => by
  refine wpListIn_plain rfl fun K hK => ?_
  obtain ⟨fn, tmps, assign, body, hrun, hR⟩ := hy
  refine ⟨fun f _ => hF.fn f, ?_⟩
  rw [Oper.semAt_eq _ _ _ (fun c e => by cases e)]
  have h := hi.evs ha
  have e : args.map a.eval = vs.toArray := by apply Array.ext'; rw [← h]; simp
  have : (execOp a.eval ⟨some d, .call ⟨.value x, args, tys⟩, ty, pos, aft, none⟩).run P w = .ok (.round l fn tmps assign body) w := by
    simp [execOp, resolve, Deferred.ofValue, invoke, hi.ev hx, e, hrun]
  rw [this]
  refine ⟨fun e => (by rw [hF.depth] at e; cases e), hR.mono fun e w' hq => ?_⟩
  obtain ⟨v, rfl, hv⟩ := k e w' hq
  exact hK _ _ (hv _ (hi.put hN))
end
theorem Is.start {N : Nat} {fn : Func} {args : List Value} (hn : fn.ntmps = N) (hl : args.length ≤ N) (L : List (Nat × Value)) (hL : ∀ p ∈ L, args[p.1]? = some p.2) : Is N [] L { tmps := args.toArray ++ Array.replicate (fn.ntmps - args.toArray.size) undef, defers := [] } := by
  refine ⟨?_, rfl, fun t v hv => ?_⟩
  · simp [hn]; omega
  · have key : ∀ M : List (Nat × Value), (∀ p ∈ M, args[p.1]? = some p.2) → look M t = some v → args[t]? = some v := by
      intro M
      induction M with
      | nil => intro _ h; simp [look] at h
      | cons p r ih =>
        intro hM h
        simp only [look] at h
        by_cases e : p.1 = t
        · have : Nat.beq p.1 t = true := beqT e
          rw [this] at h; simp at h
          have := hM p (by simp)
          rw [e, h] at this; exact this
        · have : Nat.beq p.1 t = false := beqF e
          rw [this] at h
          exact ih (fun p hp => hM p (List.mem_cons_of_mem _ hp)) h
    have h1 := key L hL hv
    have hlt : t < args.length := (List.getElem?_eq_some_iff.1 h1).1
    have h2 := (List.getElem?_eq_some_iff.1 h1).2
    simp [Array.getElem?_append, hlt, h2]
theorem AtI.enter {P : Program} {N n : Nat} {F : Fence} {f : FuncId} {fn : Func} {c : Code} {args : List Value} {R : Ending → World → Prop} {w : World} (hF : Wd F) (hro : F.round = none) (hf : P.funcs[f]? = some fn) (hb : fn.body = some c)
    (hn : fn.ntmps = N) (hl : args.length ≤ N) (L : List (Nat × Value)) (hL : ∀ p ∈ L, args[p.1]? = some p.2) (h : At N [] L (c.wpIn F n P (bodyPost P fn R)) w) : CallsIn F n P f args.toArray w R :=
  callsIn_of_wp hf hb (hF.fn f) (h _ (Is.start hn hl L hL)) hro
theorem At.enterM {P : Program} {N n : Nat} {f : FuncId} {fn : Func} {c : Code} {args : List Value} {R : Ending → World → Prop} {w : World} (hf : P.funcs[f]? = some fn) (hb : fn.body = some c)
    (hn : fn.ntmps = N) (hl : args.length ≤ N) (L : List (Nat × Value)) (hL : ∀ p ∈ L, args[p.1]? = some p.2) (h : At N [] L (c.wp P (bodyPostM Fence.wide n P fn R)) w) : Calls P f args.toArray w R :=
  callsIn_wide.1 (callsIn_of_wp_marks (n := n) hf hb trivial (wpIn_wide.2 (h _ (Is.start hn hl L hL))))
theorem At.doneM {P : Program} {N n D : Nat} {fn : Func} {R : Ending → World → Prop} {L : List (Nat × Value)} {vs : List Value} {w : World} (h : ResV P L (w.putObj D (.deferred none)) fn.results.toList vs) (hD : w.heap[D]? = some (.deferred (some [])))
    (hR : R (.returned (resOf vs)) (w.putObj D (.deferred none))) : At N [{ target := .collected D, args := #[] }] L (bodyPostM Fence.wide n P fn R .normal) w := fun a ha => by
  show LeavesInM _ _ _ _ _ _ a.defers _ _
  rw [ha.defers]
  exact ⟨by simp, .inl ⟨D, _, rfl, run_takeDeferred hD, _, run_results ha h, hR⟩⟩
theorem own_out {P : Program} {fn : Func} {R : Ending → World → Prop} (h : ∀ w, ¬ R .outgrown w) : ∀ a w, ¬ bodyPost P fn R .outgrown a w := fun _ w hb => h w hb
theorem nl_then {K : Act → World → Prop} {Q : Exit → Act → World → Prop} (h : ∀ a w, ¬ Q .outgrown a w) : ∀ a w, ¬ Exit.then K Q .outgrown a w := h
theorem nl_block {id : Nat} {Q : Exit → Act → World → Prop} (h : ∀ a w, ¬ Q .outgrown a w) : ∀ a w, ¬ Exit.inBlock id Q .outgrown a w := h
theorem rev_snoc {ts : List Tk} {k : Nat} {u : Tk} (hk : k < ts.length) (hu : ts[ts.length - 1 - k]? = some u) : ts.reverse.take k ++ [u] = ts.reverse.take (k + 1) := by
  rw [List.take_add_one, List.getElem?_reverse hk, hu]; rfl
theorem Fr.grownG {S : Nat → Prop} {w W W' : World} {row : Option Nat} (h : Fr S w W) (hg : W.grownBy W' row) (hr : ∀ r, row = some r → w.heap.size ≤ r) : Fr S w W' :=
  ⟨hg.os.trans h.os, hg.tape.trans h.tape, hg.output.trans h.output, Nat.le_trans h.size hg.size, fun k x hk hx => by
    have hlt := (Array.getElem?_eq_some_iff.1 hx).1
    rw [hg.block k (Nat.lt_of_lt_of_le hlt h.size) (fun e => by have := hr k e.symm; omega)]
    exact h.old k x hk hx⟩
theorem Fr.grownG' {S : Nat → Prop} {W : World} {l : Nat} {o o' : Obj} (hW : W.heap[l]? = some o) (hl : S l) : Fr S W (W.putObj l o') :=
  have hg := grownBy_putObj' W l o'
  ⟨hg.os, hg.tape, hg.output, hg.size, fun k x hk hx => by
    rw [hg.block k (Array.getElem?_eq_some_iff.1 hx).1 (fun e => by cases e; exact hk hl)]; exact hx⟩
theorem cells_grown {W W' : World} {row : Option Nat} {b : Nat} {C : Array Value} {T : TypeId} {fr : Nat × Nat} (h : W.heap[b]? = some (.cells C T fr)) (hg : W.grownBy W' row) (hr : ∀ r, row = some r → ∃ o : Obj, W.heap[r]? = some o ∧ o.isCells = false) : W'.heap[b]? = some (.cells C T fr) := by
  rw [hg.block b (Array.getElem?_eq_some_iff.1 h).1 (fun e => by
    obtain ⟨o, h1, h2⟩ := hr b e.symm
    rw [h] at h1; cases h1; cases h2)]
  exact h
theorem RowsAt.cells {α : Type} {w : World} {v : Value} {sz : Nat} {l : List α} {f : α → Array Value} (h : RowsAt w v sz (l.map f)) (hp : 0 < sz) (hne : l ≠ []) : ∃ o : Obj, w.heap[vBlock v]? = some o ∧ o.isCells = true := by
  obtain ⟨s, r, rfl⟩ := List.exists_cons_of_ne_nil hne
  have h1 := h.at_ 0 (f s) rfl
  have h2 : 0 < (f s).size := by rw [h.size 0 (f s) rfl]; exact hp
  exact cells_of_cell (h1 0 _ (Array.getElem?_eq_getElem h2))
mutual
theorem tm_cells {w : World} : ∀ (t : Tm) (b : Nat), TmOk w t → tmBlk t b → ∃ o : Obj, w.heap[b]? = some o ∧ o.isCells = true
  | .mk cs k at_ nm pm n kv av kids arms, b, h, hb => by
    rw [tmBlk] at hb
    rcases hb with ⟨h1, rfl⟩ | ⟨h1, rfl⟩ | h1 | h1
    · exact h.kidsAt.cells (by decide) h1
    · exact h.armsAt.cells (by decide) h1
    · exact tmL_cells kids b h.kids h1
    · exact amL_cells arms b h.arms h1
theorem tmL_cells {w : World} : ∀ (l : List Tm) (b : Nat), (∀ u ∈ l, TmOk w u) → tmBlkL l b → ∃ o : Obj, w.heap[b]? = some o ∧ o.isCells = true
  | [], _, _, h => h.elim
  | t :: r, b, h, hb => by
    rw [tmBlkL] at hb
    rcases hb with h1 | h1
    · exact tm_cells t b (h t (by simp)) h1
    · exact tmL_cells r b (fun u hu => h u (List.mem_cons_of_mem _ hu)) h1
theorem am_cells {w : World} : ∀ (a : Am) (b : Nat), AmOk w a → amBlk a b → ∃ o : Obj, w.heap[b]? = some o ∧ o.isCells = true
  | .mk cs nm vv vars body, b, h, hb => by
    rw [amBlk] at hb
    rcases hb with ⟨h1, rfl⟩ | h1
    · exact RowsAt.cells (f := fun s => #[Value.string s]) h.varsAt (by decide) h1
    · exact tm_cells body b h.body h1
theorem amL_cells {w : World} : ∀ (l : List Am) (b : Nat), (∀ u ∈ l, AmOk w u) → amBlkL l b → ∃ o : Obj, w.heap[b]? = some o ∧ o.isCells = true
  | [], _, _, h => h.elim
  | a :: r, b, h, hb => by
    rw [amBlkL] at hb
    rcases hb with h1 | h1
    · exact am_cells a b (h a (by simp)) h1
    · exact amL_cells r b (fun u hu => h u (List.mem_cons_of_mem _ hu)) h1
end
theorem Xs.grownC {M : List (Option Nat)} {W W' : World} {row : Option Nat} {l : List Tm} (h : Xs kTm M W l) (hg : W.grownBy W' row) (hr : ∀ r, row = some r → ∃ o : Obj, W.heap[r]? = some o ∧ o.isCells = false) : Xs kTm M W' l := fun u hu =>
  ⟨kTm.keep (h u hu).1 fun b hb => hg.block b (kTm.lt (h u hu).1 hb) (fun e => by
    obtain ⟨o, h1, h2⟩ := hr b e.symm
    obtain ⟨o', h3, h4⟩ := tm_cells u b (h u hu).1 hb
    rw [h1] at h3
    obtain rfl := Option.some.inj h3
    rw [h2] at h4
    exact absurd h4 (by decide)), (h u hu).2⟩
theorem RowsAt.frS {α : Type} {S : Nat → Prop} {w w' : World} {v : Value} {sz : Nat} {l : List α} {f : α → Array Value} (h : RowsAt w v sz (l.map f)) (hp : 0 < sz) (hF : Fr S w w') (hn : l ≠ [] → ¬ S (vBlock v)) : RowsAt w' v sz (l.map f) :=
  RowsAt.keepB h fun hne => by
    have hlt := h.blkLt hp (map_ne hne)
    rw [Array.getElem?_eq_getElem hlt]
    exact hF.old _ _ (hn (map_ne hne)) (Array.getElem?_eq_getElem hlt)
theorem At.rangeB {P : Program} {N : Nat} {ds : List Deferred} {L : List (Nat × Value)} {w : World} {g : Operand} {p1 p2 d6 : Nat} {assign body : Code} {Q : Exit → Act → World → Prop} {gf : Nat} {lb : Array Value} {S : Nat → Prop} {ts : List Tk} {TK : TypeId}
    (hg : ev L g = some (.func (.func gf) #[] lb)) (hent : entB P gf = true) (h1 : Nat.blt p1 N = true) (h2 : Nat.blt p2 N = true) (hS : ∀ k, w.heap.size ≤ k → S k)
    (hseq : SeqStopsK Fence.wide 2 P gf lb (fun x : Int × Tk => #[.int .i64 x.1, .agg x.2.cs]) (Fr S) (fun xs => xs.map Prod.snd = ts.reverse) (fun _ => True) ts.length w)
    (I : List Tk → World → Prop) (hI : ∀ pre W W' row, I pre W → W.grownBy W' row → (∀ r, row = some r → w.heap.size ≤ r ∧ ∃ o : Obj, W.heap[r]? = some o ∧ o.isCells = false) → I pre W') (h0 : I [] w)
    (hassign : ∀ (l : Nat) (pre : List Tk) (i : Int) (t : Tk) (W : World), I pre W → At N [] ((p2, .agg t.cs) :: (p1, .int .i64 i) :: L) (assign.wpIn (Fence.wide.inRound l) 1 P (fun e a' W' => e = .normal ∧ KeepsFrom w.heap.size W W' ∧ Fr S W W' ∧ I pre W' ∧ ∃ Bx, Is N [] ((d6, .pointer (some ⟨Bx, 0, none⟩)) :: L) a' ∧ W'.heap[Bx]? = some (.cells t.cs TK) ∧ W.heap.size ≤ Bx)) W)
    (hw : ∀ pre W, I pre W → w.heap.size ≤ W.heap.size)
    (hbody : ∀ (l : Nat) (pre : List Tk) (t : Tk) (Bx : Nat) (W : World), I pre W → W.heap[Bx]? = some (.cells t.cs TK) → w.heap.size ≤ Bx → At N [] ((d6, .pointer (some ⟨Bx, 0, none⟩)) :: L) (body.wpIn (Fence.wide.inRound l) 1 P (fun e _ W' => e = .normal ∧ KeepsFrom w.heap.size W W' ∧ Fr S W W' ∧ I (pre ++ [t]) W')) W)
    (hdone : ∀ (D : Nat) (W : World), w.heap.size ≤ D → I ts.reverse W → W.heap[D]? = some (.deferred (some [])) → At N ({ target := .collected D, args := #[] } :: ds) L (Q .normal) W) :
    At N ds L ((Code.rangeFunc g #[p1, p2] assign body).wp P Q) w := fun a ha => by
  refine (wpIn_wide (n := 3)).1 (wpIn_rangeFunc_ownH (F := Fence.wide) (n := 3) (w0 := w) rfl (by decide) (gf := gf) (lb := lb) (ha.ev hg) trivial (run_callFunc hent) hseq (fun h k => Fr.then h k (fun k hk => .inl hk))
    (fun W l o o' hl hW ho _ => Fr.grownG' hW (hS l hl)) (Below.refl _ _) (fun _ => rfl) (fun pre W => I (pre.map Prod.snd) W) (fun _ _ _ => False) (fun pre W W' row hs hg hr => hI _ _ _ _ hs hg hr) (fun _ _ _ _ _ h _ _ => h) h0
    (fun x a' W => ∃ Bx, Is N [] ((d6, .pointer (some ⟨Bx, 0, none⟩)) :: L) a' ∧ W.heap[Bx]? = some (.cells x.2.cs TK) ∧ w.heap.size ≤ Bx) (fun x a' u W W' row hs hg hr => ?_) (fun l pre x W K hi hK => ?_) (fun l pre x a' W hl hlr hi hax hlen => ?_) (fun D xs W hD hxs hi hD2 => ?_) (fun _ _ _ _ _ _ h _ => h.elim))
  · obtain ⟨Bx, h1, h2, h3⟩ := hs
    exact ⟨Bx, h1, cells_grown h2 hg (fun r e => (hr r e).2), h3⟩
  · have ha0 : Is N [] L { a with defers := [] } := ⟨ha.size, rfl, ha.get⟩
    have ha1 : Is N [] ((p2, .agg x.2.cs) :: (p1, .int .i64 x.1) :: L) { tmps := (a.tmps.setIfInBounds p1 (.int .i64 x.1)).setIfInBounds p2 (.agg x.2.cs), defers := [] } := (ha0.put h1).put h2
    have hz : Array.foldl (fun t (x : Tmp × Value) => t.setIfInBounds x.1 x.2) a.tmps (#[p1, p2].zip #[Value.int .i64 x.1, Value.agg x.2.cs]) = (a.tmps.setIfInBounds p1 (.int .i64 x.1)).setIfInBounds p2 (.agg x.2.cs) := by rw [← Array.foldl_toList]; simp
    refine wpIn_mono (show Code.wpIn _ _ _ _ _ { tmps := _, defers := [] } W from by rw [hz]; exact hassign l (pre.map Prod.snd) x.1 x.2 W hi _ ha1) (fun e a' W' hq => ?_)
    obtain ⟨rfl, q1, q2, q3, Bx, q4, q5, q6⟩ := hq
    exact hK a' W' q1 q2 q3 ⟨Bx, q4, q5, Nat.le_trans (hw _ _ hi) q6⟩
  · obtain ⟨Bx, h1, h2, h3⟩ := hax
    refine wpIn_mono (hbody l (pre.map Prod.snd) x.2 Bx W hi h2 h3 a' h1) (fun e a'' W' hq => ?_)
    obtain ⟨rfl, q1, q2, q3⟩ := hq
    refine ⟨q1, q2, ?_⟩
    show I ((pre ++ [x]).map Prod.snd) W'
    rw [List.map_append]; exact q3
  · have hxs : xs.map Prod.snd = ts.reverse := hxs
    have hi : I (xs.map Prod.snd) W := hi
    rw [hxs] at hi
    exact hdone D W hD hi hD2 _ ⟨ha.size, by rw [← ha.defers], ha.get⟩
theorem KeepsFrom.ofFr {B b : Nat} {W W' : World} {C : Array Value} {T : TypeId} {fr : Nat × Nat} (h : Fr (fun k => k = b) W W') (hb : W.heap[b]? = some (.cells C T fr)) : KeepsFrom B W W' :=
  ⟨h.size, fun k o _ hk ho => h.old k o (fun e => by subst e; rw [hb] at hk; cases hk; cases ho) hk⟩
theorem Fr.weaken {S S' : Nat → Prop} {w w' : World} (h : Fr S w w') (hS : ∀ k, S k → S' k) : Fr S' w w' := ⟨h.os, h.tape, h.output, h.size, fun k x hk hx => h.old k x (fun hs => hk (hS k hs)) hx⟩
theorem At.makeFuncM {P : Program} {N : Nat} {ds : List Deferred} {L : List (Nat × Value)} {w : World} {ops : Array Oper} {Q : Exit → Act → World → Prop} {rest : List Oper} {d : Nat} {ty : TypeId} {pos : String} {aft : Array Edge}
    {fn : Fn} {fst cap : Array Operand} {us vs : List Value} (hf : evs L fst.toList = some us) (hc : evs L cap.toList = some vs) (hN : Nat.blt d N = true) (k : At N ds ((d, .func fn us.toArray vs.toArray) :: L) (wpList P ops Q rest) w) :
    At N ds L (wpList P ops Q (⟨some d, .makeFunc fn fst cap, ty, pos, aft, none⟩ :: rest)) w :=
  At.op rfl rfl hN (fun a ha => by
    have h := ha.evs hc
    have h2 := ha.evs hf
    have e : cap.map a.eval = vs.toArray := by apply Array.ext'; rw [← h]; simp
    have e2 : fst.map a.eval = us.toArray := by apply Array.ext'; rw [← h2]; simp
    simp [execOp, Instr.makeFunc, e, e2]) k
theorem by141 : bytesB Tryz.prog 141 = some 40 := by kernel_rfl
theorem en100 : entB Tryz.prog 100 = true := by kernel_rfl
theorem en105 : entB Tryz.prog 105 = true := by kernel_rfl
theorem en109 : entB Tryz.prog 109 = true := by kernel_rfl
theorem en110 : entB Tryz.prog 110 = true := by kernel_rfl
theorem en112 : entB Tryz.prog 112 = true := by kernel_rfl
theorem en113 : entB Tryz.prog 113 = true := by kernel_rfl
theorem en114 : entB Tryz.prog 114 = true := by kernel_rfl
theorem en116 : entB Tryz.prog 116 = true := by kernel_rfl
theorem en99 : entB Tryz.prog 99 = true := by kernel_rfl
theorem back1_any (l bs n : Nat) (S : Nat → Prop) (v : Value) (ts : List Tk) (J Jx : List (Int × Tk) → World → Prop) (w : World)
  (hY : ∀ pre x W, J pre W → pre.length < ts.length → YieldAt Fence.wide (n - 1) Tryz.prog l #[.int .i64 x.1, .agg x.2.cs] W fun e W' => (e = .returned (.bool true) ∧ J (pre ++ [x]) W' ∧ Fr S W W') ∨ (e = .returned (.bool false) ∧ Jx (pre ++ [x]) W'))
  (hbs : w.heap[bs]? = some (.cells #[v] 92)) (hbn : ¬ S bs) (hv : RowsAt w v 4 (ts.map Tk.cs)) (hvn : ts ≠ [] → ¬ S (vBlock v)) (h0 : J [] w) :
  CallsIn Fence.wide n Tryz.prog 116 ([.func (.yield l) #[] #[], .pointer (some ⟨bs, 0, none⟩)] : List Value).toArray w fun e W' => (∃ v, e = .returned v) ∧ ((∃ xs, xs.map Prod.snd = ts.reverse ∧ J xs W') ∨ ∃ pre, Jx pre W') := by
 have hlen := hv.lenL
 have hR := Fr.refl S w
 refine AtI.enter (N := 19) (.inl rfl) rfl Tryz.func116 rfl rfl (by simp) [(0, .func (.yield l) #[] #[]), (1, .pointer (some ⟨bs, 0, none⟩))] (by simp) ?_
 refine AtI.seq ?_
 refine AtI.region (.inl rfl) (nl_then (own_out (fun w h => by obtain ⟨⟨v, h⟩, _⟩ := h; cases h))) rfl ?_
 refine .load rfl (Ld.ownCell ag92 hbs rfl) rfl (.lenSl rfl hv.okL el92 rfl (.subI rfl rfl rfl (by first | omega | (simp; omega)) (.assign rfl rfl (.ops0 (.thenN ?_)))))
 refine AtI.block ?_
 refine AtI.loop (Nat × List (Int × Tk)) (fun (k, pre) => [(0, .func (.yield l) #[] #[]), (1, .pointer (some ⟨bs, 0, none⟩)), (3, .int .i64 ((ts.length : Int) - 1 - (k : Int)))]) (fun (k, pre) w1 => Fr S w w1 ∧ w1.heap[bs]? = some (.cells #[v] 92) ∧ RowsAt w1 v 4 (ts.map Tk.cs) ∧ J pre w1 ∧ (k ≤ ts.length) ∧ (pre.map Prod.snd = ts.reverse.take k) ∧ (pre.length = k)) (fun (k, pre) => ts.length - k) (0, []) (sC rfl (sC rfl (Sub.cons (congrArg some (congrArg (Value.int .i64) (by simp))) sN))) ⟨hR, hbs, hv, h0, (Nat.zero_le _), (rfl), (rfl)⟩ (fun gh w1 hI => ?_)
 obtain ⟨k, pre⟩ := gh
 clear hR hbs
 obtain ⟨hR, hbs, hv, hJ, hkb, hmap, hpl⟩ := hI
 show At _ _ [(0, .func (.yield l) #[] #[]), (1, .pointer (some ⟨bs, 0, none⟩)), (3, .int .i64 ((ts.length : Int) - 1 - (k : Int)))] _ _
 refine AtI.seq ?_
 refine AtI.seq ?_
 refine AtI.region (.inl rfl) (nl_then (nl_then (nl_then (nl_block (own_out (fun w h => by obtain ⟨⟨v, h⟩, _⟩ := h; cases h)))))) rfl ?_
 refine .move rfl rfl (.geq rfl rfl rfl (.ops0 (.thenN ?_)))
 refine AtI.cond (b := decide (0 ≤ ((ts.length : Int) - 1 - (k : Int)))) rfl (fun hc1 => ?_) (fun hc1 => ?_)
 ·skip
  have hc1' := of_decide_eq_true hc1
  refine AtI.skip ?_
  refine .thenN ?_
  refine AtI.seq ?_
  refine AtI.block ?_
  refine AtI.seq ?_
  refine .set (d := 3) (u := .int .i64 ((ts.length - 1 - k : Nat) : Int)) rfl (congrArg (Value.int .i64) (by omega)) ?_
  refine AtI.split (l1 := List.take 6 _) (l2 := List.drop 6 _) (List.take_append_drop 6 _).symm (.inl rfl) (nl_then (nl_block (nl_then (nl_then (nl_block (own_out (fun w h => by obtain ⟨⟨v, h⟩, _⟩ := h; cases h))))))) rfl ?_
  refine .move rfl rfl (.move rfl rfl (.load rfl (Ld.ownCell ag92 hbs rfl) rfl (.move rfl rfl ?_)))
  obtain ⟨u1, hu1⟩ := some_of_lt (l := ts) (i := (ts.length - 1 - k)) (by first | omega | (simp; omega))
  refine .indexAddr (i := (ts.length - 1 - k)) rfl rfl hv.okL (lt_of_some hu1) el92 sz141 rfl (.load rfl (Ld.row ag141 (sz141.trans (congrArg some ((tk_ok u1)).size.symm)) (((hv).row hu1).keep (Below.refl _ _))) rfl (.ops0 ?_))
  refine AtI.yield (.inl rfl) rfl rfl rfl (hY pre (((ts.length - 1 - k : Nat) : Int), u1) w1 hJ (by omega)) (fun e wy hq => ?_)
  rcases hq with ⟨rfl, hJ, hk⟩ | ⟨rfl, hJx⟩
  ·skip
   refine ⟨_, rfl, ?_⟩
   replace hbs := hk.old _ _ hbn hbs
   replace hv := RowsAt.frS hv (by decide) hk hvn
   replace hR := Fr.then hR hk (fun k hk => .inl hk)
   refine AtI.last (.inl rfl) (nl_then (nl_block (nl_then (nl_then (nl_block (own_out (fun w h => by obtain ⟨⟨v, h⟩, _⟩ := h; cases h))))))) rfl ?_
   refine .not rfl rfl (.ops0 (.thenN ?_))
   have hb : ((!true)) = false := rfl
   refine .set (d := 18) (u := .bool false) rfl (congrArg Value.bool hb) ?_
   refine AtI.condF rfl ?_
   refine AtI.skip ?_
   refine .inN (.thenN ?_)
   refine AtI.region (.inl rfl) (nl_then (nl_block (own_out (fun w h => by obtain ⟨⟨v, h⟩, _⟩ := h; cases h)))) rfl ?_
   refine .move rfl rfl (.subI rfl rfl rfl (by first | omega | (simp; omega)) (.assign rfl rfl (.ops0 (.thenN ?_))))
   exact fun act_ hact_ => ⟨((k + 1), (pre ++ [(((ts.length - 1 - k : Nat) : Int), u1)])), hact_.sub (sC rfl (sC rfl (Sub.cons (congrArg some (congrArg (Value.int .i64) (by omega))) sN))), ⟨hR, hbs, hv, hJ, (by omega), (by rw [List.map_append, hmap]; exact rev_snoc (by omega) hu1), (by simp [hpl])⟩, by first | omega | (dsimp only; omega)⟩
  refine ⟨_, rfl, ?_⟩
  refine AtI.last (.inl rfl) (nl_then (nl_block (nl_then (nl_then (nl_block (own_out (fun w h => by obtain ⟨⟨v, h⟩, _⟩ := h; cases h))))))) rfl ?_
  refine .not rfl rfl (.ops0 (.thenN ?_))
  have hb : ((!false)) = true := rfl
  refine .set (d := 18) (u := .bool true) rfl (congrArg Value.bool hb) ?_
  refine AtI.condT rfl ?_
  refine AtI.retc ?_
  refine .inR (.thenR (.thenR (.inR (.doneR (ResV.nil) ?_))))
  exact ⟨⟨_, rfl⟩, .inr ⟨_, hJx⟩⟩
 have hc1' := of_decide_eq_false hc1
 refine AtI.exit ?_
 refine .thenE (.thenE (.inE (.doneN (ResV.nil) ?_)))
 exact ⟨⟨_, rfl⟩, .inl ⟨pre, by rw [hmap, List.take_of_length_le (by simp; omega)], hJ⟩⟩
theorem back_stops (bs n : Nat) (S : Nat → Prop) (v : Value) (ts : List Tk) (w : World) (hbs : w.heap[bs]? = some (.cells #[v] 92)) (hbn : ¬ S bs) (hv : RowsAt w v 4 (ts.map Tk.cs)) (hvn : ts ≠ [] → ¬ S (vBlock v)) :
  SeqStopsK Fence.wide n Tryz.prog 116 #[.pointer (some ⟨bs, 0, none⟩)] (fun x : Int × Tk => #[.int .i64 x.1, .agg x.2.cs]) (Fr S) (fun xs => xs.map Prod.snd = ts.reverse) (fun _ => True) ts.length w := fun l J Jx W hW _ _ hY h0 =>
 (back1_any l bs n S v ts J Jx W hY (Below.old hW hbs) hbn (hv.keep hW) hvn h0).mono fun e W' ⟨he, h⟩ => ⟨he, h.imp id fun ⟨pre, h⟩ => ⟨pre, trivial, h⟩⟩
theorem backward_any (v : Value) (h1 : v.oneCell' = true) (w : World)  :
  Calls Tryz.prog 114 ([v] : List Value).toArray w fun e w' => ∃ bs, e = .returned (.func (.func 116) #[] #[.pointer (some ⟨bs, 0, none⟩)]) ∧ Below w.heap.size w w' ∧ w'.heap[bs]? = some (.cells #[v] 92) ∧ w.heap.size ≤ bs := by
 have hB := Below.refl w.heap.size w
 refine At.enter (N := 4) Tryz.func114 rfl rfl (by simp) [(0, v)] (by simp) ?_
 refine .seq (.region ?_)
 refine At.box rfl rfl (fun b1 w1 F1 => ?_)
 have gb1 := F1.ge hB
 have hb1 : w1.heap[b1]? = some (.cells #[v] 92) := cells_one h1 ▸ F1.new
 replace hB := F1.below' hB
 refine .assign rfl rfl (.ops0 (.thenN (.seq (.region (.makeFunc rfl rfl (.assign rfl rfl (.ops0 (.thenN (.retc (.doneR (ResV.tmp rfl ResV.nil) ?_))))))))))
 exact ⟨b1, rfl, hB, hb1, gb1⟩
theorem unary_any {wB : World} {b0 : Nat} {en dp : Int} (ts : List Tk) (v : Value) (ex : List Tk → PR ST) (w : World) (hB0 : Below wB.heap.size wB w) (hSge : ∀ k, k = b0 → wB.heap.size ≤ k) (hts : RowsAt wB v 4 (ts.map Tk.cs)) (hb0 : w.heap[b0]? = some (.cells #[v, .int .i64 en, .int .i64 dp] 102)) (hbig : ts.length ≤ 100000000) (hxs : ∀ ts, (ex ts).Sh ts.length) (hex : ExC en dp ex) (hg : (unaryP en ex ts).isOk = true) :
  Calls Tryz.prog 112 ([.pointer (some ⟨b0, 0, none⟩)] : List Value).toArray w fun e w' => RetP (fun k => k = b0) wB b0 en dp (okT w) (unaryP en ex ts) w e w' := by
 have htl := hts.lenL
 have hR := Fr.refl (fun k => k = b0) w
 have hB := hB0
 refine At.enterM (n := 3) (N := 45) Tryz.func112 rfl rfl (by simp) [(0, .pointer (some ⟨b0, 0, none⟩))] (by simp) ?_
 refine .seq (.region ?_)
 refine At.alloc ze31 rfl (fun b1 w1 F1 => ?_)
 have n_b0_b1 := F1.ne' hb0
 have gb1 := F1.gq hR.size
 replace hb0 := F1.old hb0
 have hb1 : w1.heap[b1]? = some (.cells #[zI, zI, zS, zS, zI, zN, zN, zI, zS, zI, zN, zN, zI, zN, zI, zI, zS, zI, zN, zN, zI] 31) := F1.new
 replace hR := hR.freshF F1
 refine .ops0 (.thenN (.seq (.region (.assign rfl rfl (.ops0 (.thenN (.seq (.block ?_))))))))
 refine At.loop (List Tk × Value × Nat × Value × List Tk) (fun (us, vr, f, vl, lt) => [(0, .pointer (some ⟨b0, 0, none⟩)), (2, .pointer (some ⟨b1, 0, none⟩)), (3, vl)]) (fun (us, vr, f, vl, lt) w2 => Fr (fun k => k = b0) w w2 ∧ w2.heap[b0]? = some (.cells #[vr, .int .i64 en, .int .i64 dp] 102) ∧ w2.heap[b1]? = some (.cells #[zI, zI, zS, zS, zI, zN, zN, zI, zS, zI, zN, zN, zI, zN, zI, zI, zS, zI, zN, zN, zI] 31) ∧ OwnR 141 4 Tk.cs w2 vl lt ∧ (RowsAt wB vr 4 (us.map Tk.cs)) ∧ (unaryP en ex ts = (preP en f lt us).bind fun l ts => (appP en ex ts).bind fun x ts => .ok (l.foldr sUn x) ts) ∧ (us.length < f) ∧ (∀ g, Value.ownBlock vl = some g → w.heap.size ≤ g) ∧ (lt.length + us.length ≤ ts.length)) (fun (us, vr, f, vl, lt) => f) (ts, v, (ts.length + 1), zN, []) (sC rfl (sC rfl (sC rfl sN))) ⟨hR, hb0, hb1, OwnR.nil 141 4 Tk.cs _, (hts), (rfl), (Nat.lt_succ_self _), (fun g h => by cases h), (by simp)⟩ (fun gh w2 hI => ?_)
 obtain ⟨us, vr, f, vl, lt⟩ := gh
 clear hR hB hb0 hb1
 obtain ⟨hR, hb0, hb1, hOl, hus, hs, hfl, gOl, hln⟩ := hI
 show At _ _ [(0, .pointer (some ⟨b0, 0, none⟩)), (2, .pointer (some ⟨b1, 0, none⟩)), (3, vl)] _ _
 refine .seq (.seq (.region (.move rfl rfl (.nilCheck rfl rfl (.fieldAddr rfl fo102_0 rfl ?_)))))
 refine At.buildSlice (xs := [.const (.string (⟨#[112, 114, 105, 110, 116]⟩ : ByteArray)), .const (.string (⟨#[114, 101, 102]⟩ : ByteArray)), .const (.string (⟨#[33]⟩ : ByteArray))]) rfl rfl el25 sz9 ze9 (by intro v hv; simp only [List.mem_cons, List.not_mem_nil, or_false] at hv; rcases hv with rfl | rfl | rfl <;> first | rfl | simp [Value.cells]) rfl (by decide) rfl (fun b2 w3 F2 => ?_)
 have n_b0_b2 := F2.ne' hb0
 replace hb0 := F2.old hb0
 replace hb1 := F2.old hb1
 replace hOl := hOl.fresh F2
 have hb2 : w3.heap[b2]? = some (.cells #[.string (⟨#[112, 114, 105, 110, 116]⟩ : ByteArray), .string (⟨#[114, 101, 102]⟩ : ByteArray), .string (⟨#[33]⟩ : ByteArray)] 9) := F2.new
 replace hR := hR.freshF F2
 replace hB := Fr.below hR hB0 hB0.size hSge
 refine At.call en59 rfl rfl (is_any us vr (.slice (some ⟨b2, 0, none⟩) 3 3) ([(⟨#[112, 114, 105, 110, 116]⟩ : ByteArray), (⟨#[114, 101, 102]⟩ : ByteArray), (⟨#[33]⟩ : ByteArray)]) _ ((hus).keep hB) hb0 ((StrsAt.own (ss := [(⟨#[112, 114, 105, 110, 116]⟩ : ByteArray), (⟨#[114, 101, 102]⟩ : ByteArray), (⟨#[33]⟩ : ByteArray)]) hb2 rfl (by decide) : StrsAt _ (.slice (some ⟨b2, 0, none⟩) 3 3) [(⟨#[112, 114, 105, 110, 116]⟩ : ByteArray), (⟨#[114, 101, 102]⟩ : ByteArray), (⟨#[33]⟩ : ByteArray)]))) (fun e w4 hR' => ?_)
 obtain ⟨rfl, hbl1⟩ := hR'
 refine ⟨_, rfl, ?_⟩
 replace hb0 := Below.old hbl1 hb0
 replace hb1 := Below.old hbl1 hb1
 replace hb2 := Below.old hbl1 hb2
 replace hOl := hOl.below hbl1
 replace hR := hR.callF hbl1
 replace hB := Fr.below hR hB0 hB0.size hSge
 refine .move rfl rfl ?_
 refine At.cases ((isK en us ([(⟨#[112, 114, 105, 110, 116]⟩ : ByteArray), (⟨#[114, 101, 102]⟩ : ByteArray), (⟨#[33]⟩ : ByteArray)]))) (fun hg1 => ?_) (fun hg1 => ?_)
 ·skip
  refine .set (d := 13) (u := .bool true) rfl (congrArg Value.bool hg1) (.no rfl rfl rfl rfl rfl rfl rfl (.no rfl rfl rfl rfl rfl rfl rfl (.no rfl rfl rfl rfl rfl rfl rfl (.no rfl rfl rfl rfl rfl rfl rfl (.no rfl rfl rfl rfl rfl rfl rfl (.pickT rfl rfl rfl (.ops0 (.thenN (.condT rfl (.skip (.thenN (.block (.region (.move rfl rfl (.move rfl rfl (.nilCheck rfl rfl (.fieldAddr rfl fo102_0 rfl ?_)))))))))))))))))
  refine At.call en87 rfl rfl (ptake_any us vr _ hB hSge hus hb0 (is_len hg1)) (fun e wp1 hR' => ?_)
  obtain ⟨vr1, rfl, hts1, hbo1, hF1⟩ := hR'
  refine ⟨_, rfl, ?_⟩
  replace hb1 := Fr.oldB hF1 hb1 (n_b0_b1.symm)
  replace hOl := OwnR.frB hOl hF1 hb0 rfl
  replace hb0 := hbo1
  replace hR := Fr.then hR hF1 (fun k hk => .inl hk)
  refine At.buildSlice (xs := [.tmp 24]) rfl rfl el92 sz141 ze141 (by intro v hv; simp only [List.mem_cons, List.not_mem_nil, or_false] at hv; rcases hv with rfl <;> first | rfl | simp [Value.cells, ((tk_ok (nx en us))).size]) rfl (by decide) rfl (fun b3 w5 F3 => ?_)
  have q_hOl_b3 : some b3 ≠ Value.ownBlock vl := Own.neFresh hOl F3
  replace hb0 := F3.old hb0
  replace hb1 := F3.old hb1
  replace hOl := hOl.fresh F3
  have hb3 : w5.heap[b3]? = some (.cells (([(nx en us)].map Tk.cs).flatMap (·.toList)).toArray 141) := F3.new
  replace hR := hR.freshF F3
  refine At.appendR (f := Tk.cs) rfl rfl el92 el92 sz141 by141 ze141 rfl hOl (rows_own (f := Tk.cs) (m := 1) hb3 (fun u hu => ((mem1 (Q := fun u => TkOk u) (tk_ok (nx en us))) u hu).size) rfl (by decide)) (by decide) (fun u hu => (((mem1 (Q := fun u => TkOk u) (tk_ok (nx en us)))) u hu).one) (by first | omega | (simp; omega)) (by first | omega | (simp; omega)) rfl (fun va1 w6 hO1 hA1 => ?_)
  replace hO1 : OwnR 141 4 Tk.cs w6 va1 (lt ++ [(nx en us)]) := hO1
  replace hb0 := hA1.old hb0 (hOl.neT hb0 rfl)
  replace hb1 := hA1.old hb1 (hOl.neT hb1 rfl)
  clear hb3
  have ghO1 := hA1.ge hR.size gOl
  replace hR := hR.appF hA1 (fun g hg => .inr (gOl g hg))
  refine .assign rfl rfl (.ops0 (.inN (.thenN ?_)))
  exact fun act_ hact_ => ⟨(us.tail, vr1, (f - 1), va1, (lt ++ [(nx en us)])), hact_.sub (sC rfl (sC rfl (sC rfl sN))), ⟨hR, hb0, hb1, hO1, (hts1), (by obtain ⟨q, rfl⟩ : ∃ q, f = q + 1 := ⟨f - 1, by omega⟩; rw [hs, preP]; simp only [preB', cond_true, hg1, Bool.true_or, Bool.or_true, Bool.false_or, Bool.or_false, PR.bind_ok]; rfl), (by have := hln; have := tail_len (is_len hg1); omega), (ghO1), (by have := hln; have := tail_len (is_len hg1); simp; omega)⟩, by first | omega | (dsimp only; omega)⟩
 refine .set (d := 13) (u := .bool false) rfl (congrArg Value.bool hg1) (.yes rfl rfl rfl rfl (.move rfl rfl (.yes rfl rfl rfl rfl (.nilCheck rfl rfl (.yes rfl rfl rfl rfl (.fieldAddr rfl fo102_0 rfl (.yes rfl rfl rfl rfl ?_)))))))
 refine At.buildSlice (xs := [.const (.int .i64 6)]) rfl rfl el32 sz3 ze3 (by intro v hv; simp only [List.mem_cons, List.not_mem_nil, or_false] at hv; rcases hv with rfl <;> first | rfl | simp [Value.cells]) rfl (by decide) rfl (fun b4 w7 F4 => ?_)
 have n_b0_b4 := F4.ne' hb0
 replace hb0 := F4.old hb0
 replace hb1 := F4.old hb1
 replace hb2 := F4.old hb2
 replace hOl := hOl.fresh F4
 have hb4 : w7.heap[b4]? = some (.cells #[.int .i64 6] 3) := F4.new
 replace hR := hR.freshF F4
 replace hB := Fr.below hR hB0 hB0.size hSge
 refine .yes rfl rfl rfl rfl ?_
 refine At.call en84 rfl rfl (kind_any us vr (.slice (some ⟨b4, 0, none⟩) 1 1) ([6]) _ ((hus).keep hB) hb0 ((IntsAt.own (l := [6]) hb4 rfl (by decide) : IntsAt _ (.slice (some ⟨b4, 0, none⟩) 1 1) [6]))) (fun e w8 hR' => ?_)
 obtain ⟨rfl, hbl2⟩ := hR'
 refine ⟨_, rfl, ?_⟩
 replace hb0 := Below.old hbl2 hb0
 replace hb1 := Below.old hbl2 hb1
 replace hb2 := Below.old hbl2 hb2
 replace hb4 := Below.old hbl2 hb4
 replace hOl := hOl.below hbl2
 replace hR := hR.callF hbl2
 replace hB := Fr.below hR hB0 hB0.size hSge
 refine .pickF rfl rfl rfl (.ops0 (.thenN ?_))
 refine At.cond (b := (kdK en us ([6]))) rfl (fun hc1 => ?_) (fun hc1 => ?_)
 ·skip
  refine .skip (.thenN (.block (.region (.move rfl rfl (.move rfl rfl (.nilCheck rfl rfl (.fieldAddr rfl fo102_0 rfl ?_)))))))
  refine At.call en87 rfl rfl (ptake_any us vr _ hB hSge hus hb0 (kd_len hc1 (by simp))) (fun e wp2 hR' => ?_)
  obtain ⟨vr2, rfl, hts2, hbo2, hF2⟩ := hR'
  refine ⟨_, rfl, ?_⟩
  replace hb1 := Fr.oldB hF2 hb1 (n_b0_b1.symm)
  replace hOl := OwnR.frB hOl hF2 hb0 rfl
  replace hb0 := hbo2
  replace hR := Fr.then hR hF2 (fun k hk => .inl hk)
  refine At.buildSlice (xs := [.tmp 24]) rfl rfl el92 sz141 ze141 (by intro v hv; simp only [List.mem_cons, List.not_mem_nil, or_false] at hv; rcases hv with rfl <;> first | rfl | simp [Value.cells, ((tk_ok (nx en us))).size]) rfl (by decide) rfl (fun b5 w9 F5 => ?_)
  have q_hOl_b5 : some b5 ≠ Value.ownBlock vl := Own.neFresh hOl F5
  replace hb0 := F5.old hb0
  replace hb1 := F5.old hb1
  replace hOl := hOl.fresh F5
  have hb5 : w9.heap[b5]? = some (.cells (([(nx en us)].map Tk.cs).flatMap (·.toList)).toArray 141) := F5.new
  replace hR := hR.freshF F5
  refine At.appendR (f := Tk.cs) rfl rfl el92 el92 sz141 by141 ze141 rfl hOl (rows_own (f := Tk.cs) (m := 1) hb5 (fun u hu => ((mem1 (Q := fun u => TkOk u) (tk_ok (nx en us))) u hu).size) rfl (by decide)) (by decide) (fun u hu => (((mem1 (Q := fun u => TkOk u) (tk_ok (nx en us)))) u hu).one) (by first | omega | (simp; omega)) (by first | omega | (simp; omega)) rfl (fun va2 w10 hO2 hA2 => ?_)
  replace hO2 : OwnR 141 4 Tk.cs w10 va2 (lt ++ [(nx en us)]) := hO2
  replace hb0 := hA2.old hb0 (hOl.neT hb0 rfl)
  replace hb1 := hA2.old hb1 (hOl.neT hb1 rfl)
  clear hb5
  have ghO2 := hA2.ge hR.size gOl
  replace hR := hR.appF hA2 (fun g hg => .inr (gOl g hg))
  refine .assign rfl rfl (.ops0 (.inN (.thenN ?_)))
  exact fun act_ hact_ => ⟨(us.tail, vr2, (f - 1), va2, (lt ++ [(nx en us)])), hact_.sub (sC rfl (sC rfl (sC rfl sN))), ⟨hR, hb0, hb1, hO2, (hts2), (by obtain ⟨q, rfl⟩ : ∃ q, f = q + 1 := ⟨f - 1, by omega⟩; rw [hs, preP]; simp only [preB', cond_true, hg1, hc1, Bool.true_or, Bool.or_true, Bool.false_or, Bool.or_false, PR.bind_ok]; rfl), (by have := hln; have := tail_len (kd_len hc1 (by simp)); omega), (ghO2), (by have := hln; have := tail_len (kd_len hc1 (by simp)); simp; omega)⟩, by first | omega | (dsimp only; omega)⟩
 refine .exit (.thenE (.thenE (.inE (.thenN (.seq (.region (.move rfl rfl ?_)))))))
 have hml3 : MLt w8.heap.size [some b0, some b1, some b2, some b4, Value.ownBlock vl] := (MLt.blk hb0 (MLt.blk hb1 (MLt.blk hb2 (MLt.blk hb4 (MLt.own hOl (MLt.nil _))))))
 refine At.call en113 rfl rfl (app_any us vr ex  _ hB hSge hus hb0 (by have hz := hbig; have := hln; omega) hxs hex (PR.sub hg (by obtain ⟨q, rfl⟩ : ∃ q, f = q + 1 := ⟨f - 1, by omega⟩; rw [hs, preP]; (try simp only [preB', SB, hg1, hc1]); repeat constructor))) (fun e wp3 hR' => ?_)
 obtain ⟨x3, us3, val3, vr3, hq3, rfl, hF3, hts3, hbo3, ho3⟩ := hR'
 refine ⟨_, rfl, ?_⟩
 replace hb1 := Fr.oldB hF3 hb1 (n_b0_b1.symm)
 replace hb2 := Fr.oldB hF3 hb2 (n_b0_b2.symm)
 replace hb4 := Fr.oldB hF3 hb4 (n_b0_b4.symm)
 replace hOl := OwnR.frB hOl hF3 hb0 rfl
 replace hb0 := hbo3
 have hsz3 := hR.size
 replace hR := Fr.then hR hF3 (fun k hk => .inl hk)
 obtain ⟨tm3, rfl, htm3, hmt3⟩ := ho3
 have hx3 := Xs.of_new (B := 0) (M := [some b0, some b1, some b2, some b4, Value.ownBlock vl]) (K := kTm) htm3 (fun b hb => .inr (hmt3.blk b hb)) (fun _ _ => Nat.zero_le _) hml3
 replace hmt3 := hmt3.mono hsz3
 refine At.alloc ze31 rfl (fun b6 w11 F6 => ?_)
 have n_b0_b6 := F6.ne' hb0
 have n_b1_b6 := F6.ne' hb1
 have n_b2_b6 := F6.ne' hb2
 have n_b4_b6 := F6.ne' hb4
 have gb6 := F6.gq hR.size
 replace hb0 := F6.old hb0
 replace hb1 := F6.old hb1
 replace hb2 := F6.old hb2
 replace hb4 := F6.old hb4
 replace hOl := hOl.fresh F6
 replace hx3 := Xs.fresh hx3 F6
 have hb6 : w11.heap[b6]? = some (.cells #[zI, zI, zS, zS, zI, zN, zN, zI, zS, zI, zN, zN, zI, zN, zI, zI, zS, zI, zN, zN, zI] 31) := F6.new
 replace hR := hR.freshF F6
 refine At.storeAll rfl rfl hb6 (sz31.trans (congrArg some ((Xs.one hx3)).size.symm)) ((Xs.one hx3)).size.symm ((Xs.one hx3)).one (fun w12 S1 => ?_)
 replace hb0 := S1.other hb0 n_b0_b6
 replace hb1 := S1.other hb1 n_b1_b6
 replace hb2 := S1.other hb2 n_b2_b6
 replace hb4 := S1.other hb4 n_b4_b6
 replace hOl := hOl.set S1 (hOl.neT hb6 rfl)
 replace hx3 := Xs.set hx3 S1 (by simp)
 replace hb6 : w12.heap[b6]? = some (.cells tm3.cs 31) := S1.new
 replace hR := hR.setF S1 (.inr gb6)
 refine .ops0 (.thenN (.seq (.seq (.region (.move rfl rfl ?_)))))
 have hlt_b0 := (Array.getElem?_eq_some_iff.1 hb0).1
 have hlt_b1 := (Array.getElem?_eq_some_iff.1 hb1).1
 have hlt_b2 := (Array.getElem?_eq_some_iff.1 hb2).1
 have hlt_b4 := (Array.getElem?_eq_some_iff.1 hb4).1
 have hlt_b6 := (Array.getElem?_eq_some_iff.1 hb6).1
 have hszk := hR.size
 refine At.call en114 rfl rfl (backward_any vl ((hOl).one) _) (fun e wk1 hR' => ?_)
 obtain ⟨bk, rfl, hblk1, hbk, hgek⟩ := hR'
 refine ⟨_, rfl, ?_⟩
 replace hb0 := Below.old hblk1 hb0
 replace hb1 := Below.old hblk1 hb1
 replace hb6 := Below.old hblk1 hb6
 replace hOl := hOl.below hblk1
 replace hx3 := Xs.below hx3 hblk1
 replace hR := hR.callF hblk1
 have n_b0_bk : b0 ≠ bk := by omega
 have n_b1_bk : b1 ≠ bk := by omega
 have n_b2_bk : b2 ≠ bk := by omega
 have n_b4_bk : b4 ≠ bk := by omega
 have n_b6_bk : b6 ≠ bk := by omega
 refine .ops0 (.thenN (.block (.sub (L' := [(2, .pointer (some ⟨b1, 0, none⟩)), (4, .pointer (some ⟨b6, 0, none⟩)), (30, .func (.func 116) #[] #[.pointer (some ⟨bk, 0, none⟩)])]) (sC rfl (sC rfl (sC rfl sN))) ?_)))
 have hnb : ¬ (fun k => k = b6 ∨ wk1.heap.size ≤ k) bk := by have h := (Array.getElem?_eq_some_iff.1 hbk).1; rintro (e | e); exact n_b6_bk e.symm; omega
 have hnv : lt ≠ [] → ¬ (fun k => k = b6 ∨ wk1.heap.size ≤ k) (vBlock vl) := fun hn h => by have h1 := Own.vb hOl (fun e => hn (List.eq_nil_of_length_eq_zero e)); rcases h with h | h; exact OwnR.neT hOl hb6 rfl (by rw [h1, h]); have h2 := Own.lt hOl h1; omega
 have hsz0 := hR.size
 have hlz_b0 := (Array.getElem?_eq_some_iff.1 hb0).1
 have hlz_b1 := (Array.getElem?_eq_some_iff.1 hb1).1
 have hlz_b6 := (Array.getElem?_eq_some_iff.1 hb6).1
 refine At.rangeB (d6 := 6) (TK := 141) (S := (fun k => k = b6 ∨ wk1.heap.size ≤ k)) (ts := lt) rfl en116 rfl rfl (fun k hk => .inr hk) (back_stops bk 2 (fun k => k = b6 ∨ wk1.heap.size ≤ k) vl lt _ hbk hnb (OwnR.rows hOl (fun u hu => (((fun u _ => tk_ok u)) u hu).size)) hnv) (fun pre W => ∃ tx xs, W.heap[b6]? = some (.cells (Tm.cs tx) 31) ∧ Xs kTm [some b0, some b1, some b6] W [tx] ∧ MT w xs tx ∧ pre.foldl (fun x t => sUn t x) x3 = xs ∧ Fr (fun k => k = b0) w W ∧ wk1.heap.size ≤ W.heap.size ∧ W.heap[b0]? = some (.cells #[vr3, .int .i64 en, .int .i64 dp] 102) ∧ W.heap[b1]? = some (.cells #[zI, zI, zS, zS, zI, zN, zN, zI, zS, zI, zN, zN, zI, zN, zI, zI, zS, zI, zN, zN, zI] 31)) ?_ ⟨_, _, hb6, (Xs.weaken (M' := [some b0, some b1, some b6]) hx3 (SubM.cons (.tail _ (.head _)) (SubM.cons (.tail _ (.tail _ (.head _))) (SubM.cons (.head _) SubM.nil)))), hmt3, rfl, hR, Nat.le_refl _, hb0, hb1⟩ (fun l pre i t W hI => ?_) (fun pre W hI => by obtain ⟨tx, xs, i1, i2, i3, i4, i5, i6, i7, i8⟩ := hI; exact i6) (fun l pre t Bx W hI hBx hge => ?_) (fun D W hDge hI hD => ?_)
 ·skip
  rintro pre W W' row ⟨tx, xs, i1, i2, i3, i4, i5, i6, i7, i8⟩ hg hr
  exact ⟨tx, xs, cells_grown i1 hg (fun r e => (hr r e).2), Xs.grownC i2 hg (fun r e => (hr r e).2), i3, i4, Fr.grownG i5 hg (fun r e => Nat.le_trans hsz0 (hr r e).1), Nat.le_trans i6 hg.size, cells_grown i7 hg (fun r e => (hr r e).2), cells_grown i8 hg (fun r e => (hr r e).2)⟩
 ·skip
  obtain ⟨tx, xs, hb6, hxx, hmx, hfo, hRw, hsW, hb0, hb1⟩ := hI
  have hX0 := hb6
  have hR := Fr.refl (fun k => k = b6) W
  refine AtI.region (.inr ⟨_, rfl⟩) (fun _ _ h => by cases h.1) rfl ?_
  refine At.alloc ze141 rfl (fun b7 w13 F7 => ?_)
  have n_b0_b7 := F7.ne' hb0
  have n_b1_b7 := F7.ne' hb1
  have n_b6_b7 := F7.ne' hb6
  have gb7 := F7.gq hR.size
  replace hb0 := F7.old hb0
  replace hb1 := F7.old hb1
  replace hb6 := F7.old hb6
  replace hxx := Xs.fresh hxx F7
  have hb7 : w13.heap[b7]? = some (.cells #[zI, zS, zI, zI] 141) := F7.new
  replace hR := hR.freshF F7
  refine At.storeAll rfl rfl hb7 (sz141.trans (congrArg some ((tk_ok t)).size.symm)) ((tk_ok t)).size.symm ((tk_ok t)).one (fun w14 S2 => ?_)
  replace hb0 := S2.other hb0 n_b0_b7
  replace hb1 := S2.other hb1 n_b1_b7
  replace hb6 := S2.other hb6 n_b6_b7
  replace hxx := Xs.set hxx S2 (by simp)
  replace hb7 : w14.heap[b7]? = some (.cells t.cs 141) := S2.new
  replace hR := hR.setF S2 (.inr gb7)
  refine .ops0 ?_
  exact fun a ha => ⟨rfl, KeepsFrom.ofFr hR hX0, hR.weaken (fun k h => .inl h), ⟨tx, xs, hb6, (Xs.weaken (M' := [some b0, some b1, some b6]) hxx (SubM.cons (.tail _ (.head _)) (SubM.cons (.tail _ (.tail _ (.head _))) (SubM.cons (.tail _ (.tail _ (.tail _ (.head _)))) SubM.nil)))), hmx, hfo, Fr.then hRw hR (fun k e => .inr (e ▸ gb6)), Nat.le_trans hsW hR.size, hb0, hb1⟩, b7, ha.sub (sC rfl (sC rfl (sC rfl (sC rfl sN)))), hb7, gb7⟩
 ·skip
  obtain ⟨tx, xs, hb6, hxx, hmx, hfo, hRw, hsW, hb0, hb1⟩ := hI
  have hX0 := hb6
  have hR := Fr.refl (fun k => k = b6) W
  have hWs := hRw.size
  have n_b0_Bx : b0 ≠ Bx := by have := hlz_b0; omega
  have n_b1_Bx : b1 ≠ Bx := by have := hlz_b1; omega
  have n_b6_Bx : b6 ≠ Bx := by have := hlz_b6; omega
  refine AtI.block ?_
  refine AtI.seq ?_
  refine AtI.region (.inr ⟨_, rfl⟩) (nl_then (nl_block (fun _ _ h => by cases h.1))) rfl ?_
  refine .assign rfl rfl (.ops0 (.thenN ?_))
  refine AtI.seq ?_
  refine AtI.seq ?_
  refine AtI.region (.inr ⟨_, rfl⟩) (nl_then (nl_then (nl_block (fun _ _ h => by cases h.1)))) rfl ?_
  refine .fieldAddr rfl fo141_0 rfl (.load rfl (Ld.ownCell ag3 hBx ((tk_ok t)).c0) rfl (.eqI rfl rfl rfl (.ops0 (.thenN ?_))))
  refine AtI.cond (b := decide (t.k = 6)) rfl (fun hc2 => ?_) (fun hc2 => ?_)
  ·skip
   have hc2' := of_decide_eq_true hc2
   refine AtI.region (.inr ⟨_, rfl⟩) (nl_then (nl_block (fun _ _ h => by cases h.1))) rfl ?_
   refine .assign rfl rfl (.ops0 (.thenN ?_))
   refine AtI.region (.inr ⟨_, rfl⟩) (nl_block (fun _ _ h => by cases h.1)) rfl ?_
   refine .move rfl rfl (.fieldAddr rfl fo141_3 rfl (.load rfl (Ld.ownCell ag3 hBx ((tk_ok t)).c3) rfl (.fieldAddr rfl fo141_1 rfl (.load rfl (Ld.ownCell ag9 hBx ((tk_ok t)).c1) rfl (.load rfl (Ld.own ag31 (sz31.trans (congrArg some ((Xs.one hxx)).size.symm)) hb6) rfl ?_)))))
   refine At.buildSlice (xs := [.tmp 41]) rfl rfl el22 sz31 ze31 (by intro v hv; simp only [List.mem_cons, List.not_mem_nil, or_false] at hv; rcases hv with rfl <;> first | rfl | simp [Value.cells, ((Xs.one hxx)).size]) rfl (by decide) rfl (fun b8 w15 F8 => ?_)
   have n_b0_b8 := F8.ne' hb0
   have n_b1_b8 := F8.ne' hb1
   have n_b6_b8 := F8.ne' hb6
   have gb8 := F8.gq hR.size
   replace hb0 := F8.old hb0
   replace hb1 := F8.old hb1
   replace hb6 := F8.old hb6
   replace hBx := F8.old hBx
   replace hxx := Xs.fresh hxx F8
   have hb8 : w15.heap[b8]? = some (.cells (([tx].map Tm.cs).flatMap (·.toList)).toArray 31) := F8.new
   replace hR := hR.freshF F8
   refine .build (C := #[.int .i64 13, .int .i64 t.a, .string (bs t.t), zS, zI, (.slice (some ⟨b8, 0, none⟩) 1 1), zN, zI, zS, zI, zN, zN, zI, zN, zI, zI, zS, zI, zN, zN, zI]) sd31 ze31 rfl (Bld.cons fo31_0 rfl (lB rfl) (Bld.cons fo31_1 rfl (lB rfl) (Bld.cons fo31_2 rfl (lB rfl) (Bld.cons fo31_5 rfl (lB rfl) (Bld.nil _))))) rfl ?_
   refine At.storeAll rfl rfl hb6 sz31 ((Xs.one hxx)).size (by first | (simp [Value.oneCell', ((SlOk.nil)).one]; done) | (simp only [List.all_toArray, List.all_cons, List.all_nil, ((SlOk.nil)).one, Bool.and_true, Bool.true_and] <;> rfl)) (fun w16 S3 => ?_)
   replace hb0 := S3.other hb0 n_b0_b6
   replace hb1 := S3.other hb1 n_b1_b6
   replace hBx := S3.other hBx n_b6_Bx.symm
   replace hb8 := S3.other hb8 n_b6_b8.symm
   replace hxx := Xs.set hxx S3 (by simp)
   replace hb6 : w16.heap[b6]? = some (.cells #[.int .i64 13, .int .i64 t.a, .string (bs t.t), zS, zI, (.slice (some ⟨b8, 0, none⟩) 1 1), zN, zI, zS, zI, zN, zN, zI, zN, zI, zI, zS, zI, zN, zN, zI] 31) := S3.new
   replace hR := hR.setF S3 (.inl rfl)
   refine .ops0 (.inN ?_)
   exact fun a ha => ⟨rfl, KeepsFrom.ofFr hR hX0, hR.weaken (fun k h => .inl h), ⟨(tmA 13 t.a (bs t.t) (⟨#[]⟩ : ByteArray) 0 (.slice (some ⟨b8, 0, none⟩) 1 1) [tx] zN []), (ST.mk 13 t.a (bs t.t) (⟨#[]⟩ : ByteArray) 0 [xs] []), hb6, (Xs.mkT (Xs.cons (Xs.weaken (M' := [some b0, some b1, some b6]) hxx (SubM.cons (.tail _ (.head _)) (SubM.cons (.tail _ (.tail _ (.head _))) (SubM.cons (.tail _ (.tail _ (.tail _ (.head _)))) SubM.nil)))) (Xs.nil _ _ _)) (Xs.nil kAm [some b0, some b1, some b6] _) (rows_tm (m := 1) hb8 (mem1 (Q := fun u => TmOk w16 u) (((Xs.one hxx)).keep (Below.refl _ _))) rfl (by decide)) (RowsAt.nil _ 23) (fun _ => (show some b8 ∉ _ from (NI.cons n_b0_b8 (NI.cons n_b1_b8 (NI.cons n_b6_b8 (NI.nil _)))))) (fun h => absurd rfl h)), (MT.made (k := 13) (a := t.a) (nm := (bs t.t)) (pm := (⟨#[]⟩ : ByteArray)) (n := 0) (MTL.one hmx) (MAL.nil w) (fun _ => Nat.le_trans hWs gb8) (fun h => absurd rfl h)), (by rw [List.foldl_append, hfo]; show sUn t xs = _; rw [sUn, if_pos hc2']; rfl), Fr.then hRw hR (fun k e => .inr (e ▸ gb6)), Nat.le_trans hsW hR.size, hb0, hb1⟩⟩
  have hc2' := of_decide_eq_false hc2
  refine AtI.skip ?_
  refine .thenN ?_
  refine AtI.region (.inr ⟨_, rfl⟩) (nl_block (fun _ _ h => by cases h.1)) rfl ?_
  refine .move rfl rfl (.fieldAddr rfl fo141_3 rfl (.load rfl (Ld.ownCell ag3 hBx ((tk_ok t)).c3) rfl (.fieldAddr rfl fo141_1 rfl (.load rfl (Ld.ownCell ag9 hBx ((tk_ok t)).c1) rfl (.load rfl (Ld.own ag31 (sz31.trans (congrArg some ((Xs.one hxx)).size.symm)) hb6) rfl ?_)))))
  refine At.buildSlice (xs := [.tmp 41]) rfl rfl el22 sz31 ze31 (by intro v hv; simp only [List.mem_cons, List.not_mem_nil, or_false] at hv; rcases hv with rfl <;> first | rfl | simp [Value.cells, ((Xs.one hxx)).size]) rfl (by decide) rfl (fun b9 w17 F9 => ?_)
  have n_b0_b9 := F9.ne' hb0
  have n_b1_b9 := F9.ne' hb1
  have n_b6_b9 := F9.ne' hb6
  have gb9 := F9.gq hR.size
  replace hb0 := F9.old hb0
  replace hb1 := F9.old hb1
  replace hb6 := F9.old hb6
  replace hBx := F9.old hBx
  replace hxx := Xs.fresh hxx F9
  have hb9 : w17.heap[b9]? = some (.cells (([tx].map Tm.cs).flatMap (·.toList)).toArray 31) := F9.new
  replace hR := hR.freshF F9
  refine .build (C := #[.int .i64 10, .int .i64 t.a, .string (bs t.t), zS, zI, (.slice (some ⟨b9, 0, none⟩) 1 1), zN, zI, zS, zI, zN, zN, zI, zN, zI, zI, zS, zI, zN, zN, zI]) sd31 ze31 rfl (Bld.cons fo31_0 rfl (lB rfl) (Bld.cons fo31_1 rfl (lB rfl) (Bld.cons fo31_2 rfl (lB rfl) (Bld.cons fo31_5 rfl (lB rfl) (Bld.nil _))))) rfl ?_
  refine At.storeAll rfl rfl hb6 sz31 ((Xs.one hxx)).size (by first | (simp [Value.oneCell', ((SlOk.nil)).one]; done) | (simp only [List.all_toArray, List.all_cons, List.all_nil, ((SlOk.nil)).one, Bool.and_true, Bool.true_and] <;> rfl)) (fun w18 S4 => ?_)
  replace hb0 := S4.other hb0 n_b0_b6
  replace hb1 := S4.other hb1 n_b1_b6
  replace hBx := S4.other hBx n_b6_Bx.symm
  replace hb9 := S4.other hb9 n_b6_b9.symm
  replace hxx := Xs.set hxx S4 (by simp)
  replace hb6 : w18.heap[b6]? = some (.cells #[.int .i64 10, .int .i64 t.a, .string (bs t.t), zS, zI, (.slice (some ⟨b9, 0, none⟩) 1 1), zN, zI, zS, zI, zN, zN, zI, zN, zI, zI, zS, zI, zN, zN, zI] 31) := S4.new
  replace hR := hR.setF S4 (.inl rfl)
  refine .ops0 (.inN ?_)
  exact fun a ha => ⟨rfl, KeepsFrom.ofFr hR hX0, hR.weaken (fun k h => .inl h), ⟨(tmA 10 t.a (bs t.t) (⟨#[]⟩ : ByteArray) 0 (.slice (some ⟨b9, 0, none⟩) 1 1) [tx] zN []), (ST.mk 10 t.a (bs t.t) (⟨#[]⟩ : ByteArray) 0 [xs] []), hb6, (Xs.mkT (Xs.cons (Xs.weaken (M' := [some b0, some b1, some b6]) hxx (SubM.cons (.tail _ (.head _)) (SubM.cons (.tail _ (.tail _ (.head _))) (SubM.cons (.tail _ (.tail _ (.tail _ (.head _)))) SubM.nil)))) (Xs.nil _ _ _)) (Xs.nil kAm [some b0, some b1, some b6] _) (rows_tm (m := 1) hb9 (mem1 (Q := fun u => TmOk w18 u) (((Xs.one hxx)).keep (Below.refl _ _))) rfl (by decide)) (RowsAt.nil _ 23) (fun _ => (show some b9 ∉ _ from (NI.cons n_b0_b9 (NI.cons n_b1_b9 (NI.cons n_b6_b9 (NI.nil _)))))) (fun h => absurd rfl h)), (MT.made (k := 10) (a := t.a) (nm := (bs t.t)) (pm := (⟨#[]⟩ : ByteArray)) (n := 0) (MTL.one hmx) (MAL.nil w) (fun _ => Nat.le_trans hWs gb9) (fun h => absurd rfl h)), (by rw [List.foldl_append, hfo]; show sUn t xs = _; rw [sUn, if_neg hc2']; rfl), Fr.then hRw hR (fun k e => .inr (e ▸ gb6)), Nat.le_trans hsW hR.size, hb0, hb1⟩⟩
 obtain ⟨tx, xs, hb6, hxx, hmx, hfo, hRw, hsW, hb0, hb1⟩ := hI
 have hR := hRw
 have hWs := hRw.size
 have n_b0_D : b0 ≠ D := fun e => by subst e; rw [hb0] at hD; cases hD
 have n_b1_D : b1 ≠ D := fun e => by subst e; rw [hb1] at hD; cases hD
 have n_b6_D : b6 ≠ D := fun e => by subst e; rw [hb6] at hD; cases hD
 rw [List.foldl_reverse] at hfo
 refine .inN (.thenN (.seq (.region (.load rfl (Ld.own ag31 (sz31.trans (congrArg some ((Xs.one hxx)).size.symm)) hb6) rfl ?_))))
 refine At.storeAll rfl rfl hb1 (sz31.trans (congrArg some ((Xs.one hxx)).size.symm)) ((Xs.one hxx)).size.symm ((Xs.one hxx)).one (fun w19 S5 => ?_)
 replace hb0 := S5.other hb0 n_b0_b1
 replace hD := S5.other hD n_b1_D.symm
 replace hxx := Xs.set hxx S5 (by simp)
 replace hb1 : w19.heap[b1]? = some (.cells tx.cs 31) := S5.new
 replace hR := hR.setF S5 (.inr gb1)
 refine .ops0 (.thenN (.retc ?_))
 have hgD := grownBy_putObj' w19 D (.deferred none)
 have hrD : ∀ r, some D = some r → ∃ o : Obj, w19.heap[r]? = some o ∧ o.isCells = false := fun r e => by cases e; exact ⟨_, hD, rfl⟩
 replace hb0 := cells_grown hb0 hgD hrD
 replace hb1 := cells_grown hb1 hgD hrD
 replace hxx := Xs.grownC hxx hgD hrD
 replace hR := Fr.grownG hR hgD (fun r e => by cases e; exact Nat.le_trans hsz0 hDge)
 refine .doneM (D := D) (ResV.cell rfl (Ld.own ag31 (sz31.trans (congrArg some ((Xs.one hxx)).size.symm)) hb1) ResV.nil) hD ?_
 exact RetP.ok (x := List.foldr sUn x3 lt) (by obtain ⟨q, rfl⟩ : ∃ q, f = q + 1 := ⟨f - 1, by omega⟩; rw [hs, preP]; simp only [preB', SB, hg1, hc1, hq3] <;> rfl) hR hts3 hb0 ⟨tx, rfl, Xs.one hxx, hfo ▸ hmx⟩
theorem prod_any {wB : World} {b0 : Nat} {en dp : Int} (ts : List Tk) (v : Value) (ex : List Tk → PR ST) (w : World) (hB0 : Below wB.heap.size wB w) (hSge : ∀ k, k = b0 → wB.heap.size ≤ k) (hts : RowsAt wB v 4 (ts.map Tk.cs)) (hb0 : w.heap[b0]? = some (.cells #[v, .int .i64 en, .int .i64 dp] 102)) (hbig : ts.length ≤ 100000000) (hxs : ∀ ts, (ex ts).Sh ts.length) (hex : ExC en dp ex) (hg : (prodP en ex ts).isOk = true) :
  Calls Tryz.prog 110 ([.pointer (some ⟨b0, 0, none⟩)] : List Value).toArray w fun e w' => RetP (fun k => k = b0) wB b0 en dp (okT w) (prodP en ex ts) w e w' := by
 have htl := hts.lenL
 have hR := Fr.refl (fun k => k = b0) w
 refine At.enter (N := 8) Tryz.func110 rfl rfl (by simp) [(0, .pointer (some ⟨b0, 0, none⟩))] (by simp) ?_
 refine .seq (.region ?_)
 refine At.alloc ze31 rfl (fun b1 w1 F1 => ?_)
 have n_b0_b1 := F1.ne' hb0
 have gb1 := F1.gq hR.size
 replace hb0 := F1.old hb0
 have hb1 : w1.heap[b1]? = some (.cells #[zI, zI, zS, zS, zI, zN, zN, zI, zS, zI, zN, zN, zI, zN, zI, zI, zS, zI, zN, zN, zI] 31) := F1.new
 replace hR := hR.freshF F1
 refine .ops0 (.thenN (.seq (.region (.move rfl rfl (.move rfl rfl (.makeFuncM rfl rfl rfl ?_))))))
 refine At.buildSlice (xs := [.const (.string (⟨#[42]⟩ : ByteArray)), .const (.string (⟨#[47]⟩ : ByteArray))]) rfl rfl el25 sz9 ze9 (by intro v hv; simp only [List.mem_cons, List.not_mem_nil, or_false] at hv; rcases hv with rfl | rfl <;> first | rfl | simp [Value.cells]) rfl (by decide) rfl (fun b2 w2 F2 => ?_)
 replace hb0 := F2.old hb0
 replace hb1 := F2.old hb1
 have hb2 : w2.heap[b2]? = some (.cells #[.string (⟨#[42]⟩ : ByteArray), .string (⟨#[47]⟩ : ByteArray)] 9) := F2.new
 replace hR := hR.freshF F2
 replace hB := Fr.below hR hB0 hB0.size hSge
 have hml1 : MLt w2.heap.size [some b0, some b1, some b2] := (MLt.blk hb0 (MLt.blk hb1 (MLt.blk hb2 (MLt.nil _))))
 refine At.call en109 rfl rfl (many_any ts v 112 (unaryP en ex) (.slice (some ⟨b2, 0, none⟩) 2 2) ([(⟨#[42]⟩ : ByteArray), (⟨#[47]⟩ : ByteArray)]) _ hB hSge hts hb0 (hbig) en112 (unary_sh hxs) (fun wB b0 ts v w a1 a2 a3 a4 a5 a6 => unary_any ts v ex w a1 a2 a3 a4 a5 hxs hex a6) (OwnS.made (ss := ([(⟨#[42]⟩ : ByteArray), (⟨#[47]⟩ : ByteArray)])) hb2 rfl (by decide)) (PR.sub hg (by (try simp only [prodP, SB]); repeat constructor))) (fun e wp1 hR' => ?_)
 obtain ⟨x1, us1, val1, vr1, hq1, rfl, hF1, hts1, hbo1, ho1⟩ := hR'
 refine ⟨_, rfl, ?_⟩
 replace hb1 := Fr.oldB hF1 hb1 (n_b0_b1.symm)
 replace hb0 := hbo1
 have hsz1 := hR.size
 replace hR := Fr.then hR hF1 (fun k hk => .inl hk)
 obtain ⟨tm1, rfl, htm1, hmt1⟩ := ho1
 have hx1 := Xs.of_new (B := 0) (M := [some b0, some b1, some b2]) (K := kTm) htm1 (fun b hb => .inr (hmt1.blk b hb)) (fun _ _ => Nat.zero_le _) hml1
 replace hmt1 := hmt1.mono hsz1
 refine At.storeAll rfl rfl hb1 (sz31.trans (congrArg some ((Xs.one hx1)).size.symm)) ((Xs.one hx1)).size.symm ((Xs.one hx1)).one (fun w3 S1 => ?_)
 replace hb0 := S1.other hb0 n_b0_b1
 replace hx1 := Xs.set hx1 S1 (by simp)
 replace hb1 : w3.heap[b1]? = some (.cells tm1.cs 31) := S1.new
 replace hR := hR.setF S1 (.inr gb1)
 refine .ops0 (.thenN (.retc (.doneR (ResV.cell rfl (Ld.own ag31 (sz31.trans (congrArg some ((Xs.one hx1)).size.symm)) hb1) ResV.nil) ?_)))
 exact RetP.ok (x := x1) (by simp only [prodP, SB, hq1] <;> rfl) hR hts1 hb0 ⟨tm1, rfl, (Xs.one hx1), hmt1⟩
theorem sum_any {wB : World} {b0 : Nat} {en dp : Int} (ts : List Tk) (v : Value) (ex : List Tk → PR ST) (w : World) (hB0 : Below wB.heap.size wB w) (hSge : ∀ k, k = b0 → wB.heap.size ≤ k) (hts : RowsAt wB v 4 (ts.map Tk.cs)) (hb0 : w.heap[b0]? = some (.cells #[v, .int .i64 en, .int .i64 dp] 102)) (hbig : ts.length ≤ 100000000) (hxs : ∀ ts, (ex ts).Sh ts.length) (hex : ExC en dp ex) (hg : (sumP en ex ts).isOk = true) :
  Calls Tryz.prog 105 ([.pointer (some ⟨b0, 0, none⟩)] : List Value).toArray w fun e w' => RetP (fun k => k = b0) wB b0 en dp (okT w) (sumP en ex ts) w e w' := by
 have htl := hts.lenL
 have hR := Fr.refl (fun k => k = b0) w
 refine At.enter (N := 8) Tryz.func105 rfl rfl (by simp) [(0, .pointer (some ⟨b0, 0, none⟩))] (by simp) ?_
 refine .seq (.region ?_)
 refine At.alloc ze31 rfl (fun b1 w1 F1 => ?_)
 have n_b0_b1 := F1.ne' hb0
 have gb1 := F1.gq hR.size
 replace hb0 := F1.old hb0
 have hb1 : w1.heap[b1]? = some (.cells #[zI, zI, zS, zS, zI, zN, zN, zI, zS, zI, zN, zN, zI, zN, zI, zI, zS, zI, zN, zN, zI] 31) := F1.new
 replace hR := hR.freshF F1
 refine .ops0 (.thenN (.seq (.region (.move rfl rfl (.move rfl rfl (.makeFuncM rfl rfl rfl ?_))))))
 refine At.buildSlice (xs := [.const (.string (⟨#[43]⟩ : ByteArray)), .const (.string (⟨#[45]⟩ : ByteArray))]) rfl rfl el25 sz9 ze9 (by intro v hv; simp only [List.mem_cons, List.not_mem_nil, or_false] at hv; rcases hv with rfl | rfl <;> first | rfl | simp [Value.cells]) rfl (by decide) rfl (fun b2 w2 F2 => ?_)
 replace hb0 := F2.old hb0
 replace hb1 := F2.old hb1
 have hb2 : w2.heap[b2]? = some (.cells #[.string (⟨#[43]⟩ : ByteArray), .string (⟨#[45]⟩ : ByteArray)] 9) := F2.new
 replace hR := hR.freshF F2
 replace hB := Fr.below hR hB0 hB0.size hSge
 have hml1 : MLt w2.heap.size [some b0, some b1, some b2] := (MLt.blk hb0 (MLt.blk hb1 (MLt.blk hb2 (MLt.nil _))))
 refine At.call en109 rfl rfl (many_any ts v 110 (prodP en ex) (.slice (some ⟨b2, 0, none⟩) 2 2) ([(⟨#[43]⟩ : ByteArray), (⟨#[45]⟩ : ByteArray)]) _ hB hSge hts hb0 (hbig) en110 (prod_sh hxs) (fun wB b0 ts v w a1 a2 a3 a4 a5 a6 => prod_any ts v ex w a1 a2 a3 a4 a5 hxs hex a6) (OwnS.made (ss := ([(⟨#[43]⟩ : ByteArray), (⟨#[45]⟩ : ByteArray)])) hb2 rfl (by decide)) (PR.sub hg (by (try simp only [sumP, SB]); repeat constructor))) (fun e wp1 hR' => ?_)
 obtain ⟨x1, us1, val1, vr1, hq1, rfl, hF1, hts1, hbo1, ho1⟩ := hR'
 refine ⟨_, rfl, ?_⟩
 replace hb1 := Fr.oldB hF1 hb1 (n_b0_b1.symm)
 replace hb0 := hbo1
 have hsz1 := hR.size
 replace hR := Fr.then hR hF1 (fun k hk => .inl hk)
 obtain ⟨tm1, rfl, htm1, hmt1⟩ := ho1
 have hx1 := Xs.of_new (B := 0) (M := [some b0, some b1, some b2]) (K := kTm) htm1 (fun b hb => .inr (hmt1.blk b hb)) (fun _ _ => Nat.zero_le _) hml1
 replace hmt1 := hmt1.mono hsz1
 refine At.storeAll rfl rfl hb1 (sz31.trans (congrArg some ((Xs.one hx1)).size.symm)) ((Xs.one hx1)).size.symm ((Xs.one hx1)).one (fun w3 S1 => ?_)
 replace hb0 := S1.other hb0 n_b0_b1
 replace hx1 := Xs.set hx1 S1 (by simp)
 replace hb1 : w3.heap[b1]? = some (.cells tm1.cs 31) := S1.new
 replace hR := hR.setF S1 (.inr gb1)
 refine .ops0 (.thenN (.retc (.doneR (ResV.cell rfl (Ld.own ag31 (sz31.trans (congrArg some ((Xs.one hx1)).size.symm)) hb1) ResV.nil) ?_)))
 exact RetP.ok (x := x1) (by simp only [sumP, SB, hq1] <;> rfl) hR hts1 hb0 ⟨tm1, rfl, (Xs.one hx1), hmt1⟩
theorem cmp_any {wB : World} {b0 : Nat} {en dp : Int} (ts : List Tk) (v : Value) (ex : List Tk → PR ST) (w : World) (hB0 : Below wB.heap.size wB w) (hSge : ∀ k, k = b0 → wB.heap.size ≤ k) (hts : RowsAt wB v 4 (ts.map Tk.cs)) (hb0 : w.heap[b0]? = some (.cells #[v, .int .i64 en, .int .i64 dp] 102)) (hbig : ts.length ≤ 100000000) (hxs : ∀ ts, (ex ts).Sh ts.length) (hex : ExC en dp ex) (hg : (cmpP en ex ts).isOk = true) :
  Calls Tryz.prog 100 ([.pointer (some ⟨b0, 0, none⟩)] : List Value).toArray w fun e w' => RetP (fun k => k = b0) wB b0 en dp (okT w) (cmpP en ex ts) w e w' := by
 have htl := hts.lenL
 have hR := Fr.refl (fun k => k = b0) w
 refine At.enter (N := 8) Tryz.func100 rfl rfl (by simp) [(0, .pointer (some ⟨b0, 0, none⟩))] (by simp) ?_
 refine .seq (.region ?_)
 refine At.alloc ze31 rfl (fun b1 w1 F1 => ?_)
 have n_b0_b1 := F1.ne' hb0
 have gb1 := F1.gq hR.size
 replace hb0 := F1.old hb0
 have hb1 : w1.heap[b1]? = some (.cells #[zI, zI, zS, zS, zI, zN, zN, zI, zS, zI, zN, zN, zI, zN, zI, zI, zS, zI, zN, zN, zI] 31) := F1.new
 replace hR := hR.freshF F1
 refine .ops0 (.thenN (.seq (.region (.move rfl rfl (.move rfl rfl (.makeFuncM rfl rfl rfl ?_))))))
 refine At.buildSlice (xs := [.const (.string (⟨#[60]⟩ : ByteArray)), .const (.string (⟨#[61]⟩ : ByteArray))]) rfl rfl el25 sz9 ze9 (by intro v hv; simp only [List.mem_cons, List.not_mem_nil, or_false] at hv; rcases hv with rfl | rfl <;> first | rfl | simp [Value.cells]) rfl (by decide) rfl (fun b2 w2 F2 => ?_)
 replace hb0 := F2.old hb0
 replace hb1 := F2.old hb1
 have hb2 : w2.heap[b2]? = some (.cells #[.string (⟨#[60]⟩ : ByteArray), .string (⟨#[61]⟩ : ByteArray)] 9) := F2.new
 replace hR := hR.freshF F2
 replace hB := Fr.below hR hB0 hB0.size hSge
 have hml1 : MLt w2.heap.size [some b0, some b1, some b2] := (MLt.blk hb0 (MLt.blk hb1 (MLt.blk hb2 (MLt.nil _))))
 refine At.call en99 rfl rfl (once_any ts v 105 (sumP en ex) (.slice (some ⟨b2, 0, none⟩) 2 2) ([(⟨#[60]⟩ : ByteArray), (⟨#[61]⟩ : ByteArray)]) _ hB hSge hts hb0 (hbig) en105 (sum_sh hxs) (fun wB b0 ts v w a1 a2 a3 a4 a5 a6 => sum_any ts v ex w a1 a2 a3 a4 a5 hxs hex a6) (OwnS.made (ss := ([(⟨#[60]⟩ : ByteArray), (⟨#[61]⟩ : ByteArray)])) hb2 rfl (by decide)) (PR.sub hg (by (try simp only [cmpP, SB]); repeat constructor))) (fun e wp1 hR' => ?_)
 obtain ⟨x1, us1, val1, vr1, hq1, rfl, hF1, hts1, hbo1, ho1⟩ := hR'
 refine ⟨_, rfl, ?_⟩
 replace hb1 := Fr.oldB hF1 hb1 (n_b0_b1.symm)
 replace hb0 := hbo1
 have hsz1 := hR.size
 replace hR := Fr.then hR hF1 (fun k hk => .inl hk)
 obtain ⟨tm1, rfl, htm1, hmt1⟩ := ho1
 have hx1 := Xs.of_new (B := 0) (M := [some b0, some b1, some b2]) (K := kTm) htm1 (fun b hb => .inr (hmt1.blk b hb)) (fun _ _ => Nat.zero_le _) hml1
 replace hmt1 := hmt1.mono hsz1
 refine At.storeAll rfl rfl hb1 (sz31.trans (congrArg some ((Xs.one hx1)).size.symm)) ((Xs.one hx1)).size.symm ((Xs.one hx1)).one (fun w3 S1 => ?_)
 replace hb0 := S1.other hb0 n_b0_b1
 replace hx1 := Xs.set hx1 S1 (by simp)
 replace hb1 : w3.heap[b1]? = some (.cells tm1.cs 31) := S1.new
 replace hR := hR.setF S1 (.inr gb1)
 refine .ops0 (.thenN (.retc (.doneR (ResV.cell rfl (Ld.own ag31 (sz31.trans (congrArg some ((Xs.one hx1)).size.symm)) hb1) ResV.nil) ?_)))
 exact RetP.ok (x := x1) (by simp only [cmpP, SB, hq1] <;> rfl) hR hts1 hb0 ⟨tm1, rfl, (Xs.one hx1), hmt1⟩
theorem assign_any {wB : World} {b0 : Nat} {en dp : Int} (ts : List Tk) (v : Value) (ex : List Tk → PR ST) (w : World) (hB0 : Below wB.heap.size wB w) (hSge : ∀ k, k = b0 → wB.heap.size ≤ k) (hts : RowsAt wB v 4 (ts.map Tk.cs)) (hb0 : w.heap[b0]? = some (.cells #[v, .int .i64 en, .int .i64 dp] 102)) (hbig : ts.length ≤ 100000000) (hxs : ∀ ts, (ex ts).Sh ts.length) (hex : ExC en dp ex) (hg : (assignP en ex ts).isOk = true) :
  Calls Tryz.prog 92 ([.pointer (some ⟨b0, 0, none⟩)] : List Value).toArray w fun e w' => RetP (fun k => k = b0) wB b0 en dp (okT w) (assignP en ex ts) w e w' := by
 have htl := hts.lenL
 have hR := Fr.refl (fun k => k = b0) w
 refine At.enter (N := 8) Tryz.func92 rfl rfl (by simp) [(0, .pointer (some ⟨b0, 0, none⟩))] (by simp) ?_
 refine .seq (.region ?_)
 refine At.alloc ze31 rfl (fun b1 w1 F1 => ?_)
 have n_b0_b1 := F1.ne' hb0
 have gb1 := F1.gq hR.size
 replace hb0 := F1.old hb0
 have hb1 : w1.heap[b1]? = some (.cells #[zI, zI, zS, zS, zI, zN, zN, zI, zS, zI, zN, zN, zI, zN, zI, zI, zS, zI, zN, zN, zI] 31) := F1.new
 replace hR := hR.freshF F1
 refine .ops0 (.thenN (.seq (.region (.move rfl rfl (.move rfl rfl (.makeFuncM rfl rfl rfl ?_))))))
 refine At.buildSlice (xs := [.const (.string (⟨#[58, 61]⟩ : ByteArray))]) rfl rfl el25 sz9 ze9 (by intro v hv; simp only [List.mem_cons, List.not_mem_nil, or_false] at hv; rcases hv with rfl <;> first | rfl | simp [Value.cells]) rfl (by decide) rfl (fun b2 w2 F2 => ?_)
 replace hb0 := F2.old hb0
 replace hb1 := F2.old hb1
 have hb2 : w2.heap[b2]? = some (.cells #[.string (⟨#[58, 61]⟩ : ByteArray)] 9) := F2.new
 replace hR := hR.freshF F2
 replace hB := Fr.below hR hB0 hB0.size hSge
 have hml1 : MLt w2.heap.size [some b0, some b1, some b2] := (MLt.blk hb0 (MLt.blk hb1 (MLt.blk hb2 (MLt.nil _))))
 refine At.call en99 rfl rfl (once_any ts v 100 (cmpP en ex) (.slice (some ⟨b2, 0, none⟩) 1 1) ([(⟨#[58, 61]⟩ : ByteArray)]) _ hB hSge hts hb0 (hbig) en100 (cmp_sh hxs) (fun wB b0 ts v w a1 a2 a3 a4 a5 a6 => cmp_any ts v ex w a1 a2 a3 a4 a5 hxs hex a6) (OwnS.made (ss := ([(⟨#[58, 61]⟩ : ByteArray)])) hb2 rfl (by decide)) (PR.sub hg (by (try simp only [assignP, SB]); repeat constructor))) (fun e wp1 hR' => ?_)
 obtain ⟨x1, us1, val1, vr1, hq1, rfl, hF1, hts1, hbo1, ho1⟩ := hR'
 refine ⟨_, rfl, ?_⟩
 replace hb1 := Fr.oldB hF1 hb1 (n_b0_b1.symm)
 replace hb0 := hbo1
 have hsz1 := hR.size
 replace hR := Fr.then hR hF1 (fun k hk => .inl hk)
 obtain ⟨tm1, rfl, htm1, hmt1⟩ := ho1
 have hx1 := Xs.of_new (B := 0) (M := [some b0, some b1, some b2]) (K := kTm) htm1 (fun b hb => .inr (hmt1.blk b hb)) (fun _ _ => Nat.zero_le _) hml1
 replace hmt1 := hmt1.mono hsz1
 refine At.storeAll rfl rfl hb1 (sz31.trans (congrArg some ((Xs.one hx1)).size.symm)) ((Xs.one hx1)).size.symm ((Xs.one hx1)).one (fun w3 S1 => ?_)
 replace hb0 := S1.other hb0 n_b0_b1
 replace hx1 := Xs.set hx1 S1 (by simp)
 replace hb1 : w3.heap[b1]? = some (.cells tm1.cs 31) := S1.new
 replace hR := hR.setF S1 (.inr gb1)
 refine .ops0 (.thenN (.retc (.doneR (ResV.cell rfl (Ld.own ag31 (sz31.trans (congrArg some ((Xs.one hx1)).size.symm)) hb1) ResV.nil) ?_)))
 exact RetP.ok (x := x1) (by simp only [assignP, SB, hq1] <;> rfl) hR hts1 hb0 ⟨tm1, rfl, (Xs.one hx1), hmt1⟩
theorem leaves_one {P : Program} {fn : Func} {tmps : Array Value} {R : Ending → World → Prop} {f : FuncId} {cap : Array Value} {u : FrameMode} {w : World} {K : World → Prop} (hu : u = .returning ∨ ∃ v, u = .panicking [{ v := v, recovered := false }]) (hent : entB P f = true)
    (hd : CallsD P f cap u w fun e u' w' => u' = u ∧ ((∃ v, e = .returned v) ∧ K w')) (k : ∀ w', K w' → Leaves P fn tmps R [] u w') : Leaves P fn tmps R [{ target := .fn (.func f) cap, args := #[] }] u w := by
  refine leaves_cons (f := f) (args := cap) (by rcases hu with rfl | ⟨v, rfl⟩ <;> simp) (by simp [invoke, run_callFunc hent]) (hd.mono fun e u' w' h => ?_)
  obtain ⟨rfl, ⟨v, rfl⟩, hK⟩ := h
  have hs : settle u' = u' := by rcases hu with rfl | ⟨v, rfl⟩ <;> rfl
  show Leaves P fn tmps R [] (settle u') w'
  rw [hs]; exact k w' hK
def postD1 (P : Program) (fn : Func) (f : FuncId) (R : Ending → World → Prop) : Exit → Act → World → Prop
  | .panic c, a, w => (a.defers = [] ∧ R (.panicked c) w) ∨ (∃ cap, a.defers = [{ target := .fn (.func f) cap, args := #[] }] ∧ ∃ (v : Value) (K : World → Prop), c = [{ v := v, recovered := false }] ∧
      (∀ u, CallsD P f cap u w fun e u' w' => u' = u ∧ ((∃ v, e = .returned v) ∧ K w')) ∧ ∀ w', K w' → R (.panicked c) w')
  | e, a, w => bodyPostD P fn R e a w
theorem postD1.to {P : Program} {fn : Func} {f : FuncId} {R : Ending → World → Prop} (hent : entB P f = true) : ∀ e a w, postD1 P fn f R e a w → bodyPostD P fn R e a w := fun e a w h => by
  cases e with
  | panic c =>
    show Leaves _ _ _ _ a.defers _ _
    rcases h with ⟨h1, h2⟩ | ⟨cap, h1, v, K, rfl, hd, k⟩
    · rw [h1]; exact h2
    · rw [h1]; exact leaves_one (.inr ⟨_, rfl⟩) hent (hd _) k
  | _ => exact h
section
variable {P : Program} {N : Nat} {fn : Func} {R : Ending → World → Prop} {w : World} {L : List (Nat × Value)}
theorem PanicOk.bodyD1 {f : FuncId} : PanicOk (postD1 P fn f R) := fun _ _ _ _ hd h => by
  rcases h with ⟨h1, h2⟩ | ⟨cap, h1, h2⟩
  · exact .inl ⟨hd.trans h1, h2⟩
  · exact .inr ⟨cap, hd.trans h1, h2⟩
theorem Pk.bodyD1 {f : FuncId} {cap : Array Value} {v : Value} {K : World → Prop} (hd : ∀ u, CallsD P f cap u w fun e u' w' => u' = u ∧ ((∃ v, e = .returned v) ∧ K w'))
    (k : ∀ w', K w' → R (.panicked [{ v := v, recovered := false }]) w') : Pk N [{ target := .fn (.func f) cap, args := #[] }] (postD1 P fn f R) [{ v := v, recovered := false }] w := fun a _ h => .inr ⟨cap, h, v, K, rfl, hd, k⟩
theorem At.doneD {f : FuncId} {cap : Array Value} {K : World → Prop} (hent : entB P f = true) (hd : ∀ u, CallsD P f cap u w fun e u' w' => u' = u ∧ ((∃ v, e = .returned v) ∧ K w'))
    (k : ∀ w', K w' → ∃ vs, ResV P L w' fn.results.toList vs ∧ R (.returned (resOf vs)) w') : At N [{ target := .fn (.func f) cap, args := #[] }] L (postD1 P fn f R .normal) w := fun a ha => by
  show Leaves _ _ _ _ a.defers _ _
  rw [ha.defers]
  refine leaves_one (.inl rfl) hent (hd _) (fun w' hK => ?_)
  obtain ⟨vs, h1, h2⟩ := k w' hK
  exact ⟨_, run_results ha h1, h2⟩
theorem At.doneDR {f : FuncId} {cap : Array Value} {K : World → Prop} (hent : entB P f = true) (hd : ∀ u, CallsD P f cap u w fun e u' w' => u' = u ∧ ((∃ v, e = .returned v) ∧ K w'))
    (k : ∀ w', K w' → ∃ vs, ResV P L w' fn.results.toList vs ∧ R (.returned (resOf vs)) w') : At N [{ target := .fn (.func f) cap, args := #[] }] L (postD1 P fn f R .ret) w := fun a ha => At.doneD hent hd k a ha
theorem At.enterCD {f : FuncId} {c : Code} {args : List Value} {u : FrameMode} {R : Ending → World → Prop} (hf : P.funcs[f]? = some fn) (hb : fn.body = some c) (hn : fn.ntmps = N) (hl : args.length ≤ N) (L : List (Nat × Value)) (hL : ∀ p ∈ L, args[p.1]? = some p.2) (h : At N [] L (c.wp P (bodyPost P fn R)) w) :
    CallsD P f args.toArray u w fun e u' w' => u' = u ∧ R e w' := callsD_of_wp hf hb (h _ (Is.start hn hl L hL))
end
def exprS (en dp : Int) (ex : List Tk → PR ST) (ts : List Tk) : PR ST := bif decide (200 < dp) then .bad (nx en ts).a 6 else exB en ex ts
theorem exprP_eq {en dp : Int} {n : Nat} (h : dp + ((n : Nat) : Int) = 201) (ts : List Tk) : exprS en dp (match n with | 0 => fun _ => .bad 0 0 | m + 1 => exprP en m) ts = exprP en n ts := by
  cases n with
  | zero =>
    have : decide (200 < dp) = true := by simp; omega
    rw [exprS, this]; rfl
  | succ m =>
    have : decide (200 < dp) = false := by simp; omega
    rw [exprS, this]; rfl
theorem wrap_sub {d : Int} (h : -9223372036854775808 ≤ d ∧ d ≤ 9223372036854775807) : IntKind.i64.wrap (d + 1 - 1) = d := by rw [show d + 1 - 1 = d by omega]; exact wrap64_id _ h
theorem OwnR.of {α : Type} {f : α → Array Value} {w : World} {b m sz : Nat} {l : List α} {T : TypeId} (h : w.heap[b]? = some (.cells ((l.map f).flatMap (·.toList)).toArray T)) (hs : ∀ u ∈ l, (f u).size = sz) (hm : m = l.length) (hl : m ≤ maxLen) : OwnR T sz f w (.slice (some ⟨b, 0, none⟩) m m) l := by
  subst hm
  have hlen := flat_len' hs
  exact ⟨hlen, .inr ⟨b, _, _, rfl, Nat.zero_le _, h, Nat.le_refl _, hl, by simp [hlen], by simpa using List.take_of_length_le (Nat.le_of_eq hlen)⟩⟩
theorem names_len {en : Int} : ∀ (n : Nat) (l : List ByteArray) (ts : List Tk) {x : List ByteArray} {us : List Tk}, namesP en n l ts = .ok x us → x.length = l.length + n := by
  intro n
  induction n with
  | zero => intro l ts x us h; rw [namesP] at h; cases h; rfl
  | succ n ih =>
    intro l ts x us h
    rw [namesP] at h
    cases hw : wordP en 2 ts with
    | ok t vs => rw [hw] at h; have := ih _ _ h; simp at this; omega
    | bad a c => rw [hw] at h; cases h
theorem getD_ofB {l : List ByteArray} {i : Nat} {u d : ByteArray} (h : l[i]? = some u) : l.getD i d = u := by rw [List.getD_eq_getElem?_getD, h]; rfl
theorem MAL.one {w : World} {x : SA} {t : Am} (k : MA w x t) : MAL w [x] [t] := All2.cons k All2.nil
end Go.Proofs.YtfoolfecjjngpaaGreat
