/-
 The walks of the layer parse's words. Written by a program of ours.
-/
import Derived.Test.YtkjmjnddanhapaaN3
set_option linter.unusedVariables false
set_option linter.unusedSimpArgs false
namespace Go.Proofs.Ytkjmjnddanhapaa
open Go.RowKit
theorem ag3 : aggB Try.prog 3 = some false := by kernel_rfl
theorem ag43 : aggB Try.prog 43 = some false := by kernel_rfl
theorem ag47 : aggB Try.prog 47 = some true := by kernel_rfl
theorem ag9 : aggB Try.prog 9 = some false := by kernel_rfl
theorem cc75 : Try.prog.concrete 75 = true := by kernel_rfl
theorem el29 : elemB Try.prog 29 = some 9 := by kernel_rfl
theorem el43 : elemB Try.prog 43 = some 47 := by kernel_rfl
theorem el48 : elemB Try.prog 48 = some 3 := by kernel_rfl
theorem en43 : entB Try.prog 43 = true := by kernel_rfl
theorem en47 : entB Try.prog 47 = true := by kernel_rfl
theorem en63 : entB Try.prog 63 = true := by kernel_rfl
theorem en64 : entB Try.prog 64 = true := by kernel_rfl
theorem en71 : entB Try.prog 71 = true := by kernel_rfl
theorem en74 : entB Try.prog 74 = true := by kernel_rfl
theorem en85 : entB Try.prog 85 = true := by kernel_rfl
theorem en86 : entB Try.prog 86 = true := by kernel_rfl
theorem en94 : entB Try.prog 94 = true := by kernel_rfl
theorem fo47_0 : fieldB Try.prog 47 0 = some (0, 1) := by kernel_rfl
theorem fo47_1 : fieldB Try.prog 47 1 = some (1, 1) := by kernel_rfl
theorem fo47_3 : fieldB Try.prog 47 3 = some (3, 1) := by kernel_rfl
theorem fo75_0 : fieldB Try.prog 75 0 = some (0, 1) := by kernel_rfl
theorem fo75_1 : fieldB Try.prog 75 1 = some (1, 1) := by kernel_rfl
theorem fo79_0 : fieldB Try.prog 79 0 = some (0, 1) := by kernel_rfl
theorem fo79_1 : fieldB Try.prog 79 1 = some (1, 1) := by kernel_rfl
theorem fo81_0 : fieldB Try.prog 81 0 = some (0, 2) := by kernel_rfl
theorem ft47_0 : fieldTB Try.prog 47 0 = some (0, 3) := by kernel_rfl
theorem ft47_3 : fieldTB Try.prog 47 3 = some (3, 3) := by kernel_rfl
theorem sd47 : sizedB Try.prog 47 = true := by kernel_rfl
theorem sd75 : sizedB Try.prog 75 = true := by kernel_rfl
theorem sz3 : sizeB Try.prog 3 = some 1 := by kernel_rfl
theorem sz43 : sizeB Try.prog 43 = some 1 := by kernel_rfl
theorem sz47 : sizeB Try.prog 47 = some 4 := by kernel_rfl
theorem sz9 : sizeB Try.prog 9 = some 1 := by kernel_rfl
theorem ze3 : zeroB Try.prog 3 = some (.int .i64 0) := by kernel_rfl
theorem ze47 : zeroB Try.prog 47 = some (.agg #[.int .i64 0, .string (⟨#[]⟩ : ByteArray), .int .i64 0, .int .i64 0]) := by kernel_rfl
theorem ze75 : zeroB Try.prog 75 = some (.agg #[.int .i64 0, .int .i64 0]) := by kernel_rfl
theorem ze9 : zeroB Try.prog 9 = some (.string (⟨#[]⟩ : ByteArray)) := by kernel_rfl
theorem index_any (v : Value) (ss : List ByteArray) (s : ByteArray) (w : World) (hv : StrsAt w v ss) (hl : ss.length ≤ 9223372036854775807) :
  Calls Try.prog 85 ([v, .string s] : List Value).toArray w fun e w' => e = .returned (.int .i64 (idxI (fun x : ByteArray => decide (x = s)) ss)) ∧ w = w' := by
 have hB := Below.refl w.heap.size w
 refine At.enter (N := 19) Try.func85 rfl rfl (by simp) [(0, v), (1, .string s)] (by simp) ?_
 refine .seq (.region (.assign rfl rfl (.ops0 (.thenN (.seq (.seq (.region (.move rfl rfl (.lenSl rfl (hv).ok el29 rfl (.move rfl rfl (.ops0 (.thenN (.block ?_)))))))))))))
 refine At.loop (Nat) (fun k => [(0, v), (1, .string s), (7, .int .i64 (ss.length : Int)), (8, .int .i64 (k : Int))]) (fun k w1 => w = w1 ∧ (k ≤ ss.length) ∧ (∀ i x, i < k → ss[i]? = some x → (fun x : ByteArray => decide (x = s)) x = false)) (fun k => ss.length - k) (0 : Nat) (Sub.cons rfl (Sub.cons rfl (Sub.cons rfl (Sub.cons rfl Sub.nil)))) ⟨rfl, (Nat.zero_le _), (fun j x hj => absurd hj (Nat.not_lt_zero j))⟩ (fun k w1 hI => ?_)
 obtain ⟨rfl, hk, hn⟩ := hI
 show At _ _ [(0, v), (1, .string s), (7, .int .i64 (ss.length : Int)), (8, .int .i64 (k : Int))] _ _
 refine .seq (.region (.lss rfl rfl rfl (.ops0 (.thenN (.seq ?_)))))
 refine At.cond (b := decide ((k : Int) < (ss.length : Int))) rfl (fun hc1 => ?_) (fun hc1 => ?_)
 ·skip
  have hc1' := of_decide_eq_true hc1
  refine .skip (.thenN (.seq (.block (.seq (.region (.move rfl rfl (.assign rfl rfl (.ops0 (.thenN (.seq (.region (.move rfl rfl (.move rfl rfl (.move rfl rfl ?_))))))))))))))
  obtain ⟨u1, hu1⟩ := some_of_lt (l := ss) (i := k) (by omega)
  refine .indexAddr (i := k) rfl rfl (hv).ok (lt_of_some hu1) el29 sz9 rfl (.load rfl (Ld.cell ag9 (cell_keep ((hv).get hu1) hB)) rfl (.eqS rfl rfl rfl (.ops0 (.thenN ?_))))
  refine At.cond (b := decide (s = u1)) rfl (fun hc2 => ?_) (fun hc2 => ?_)
  ·skip
   have hc2' := of_decide_eq_true hc2
   refine .seq (.region (.move rfl rfl (.assign rfl rfl (.ops0 (.thenN (.retc (.inR (.thenR (.thenR (.inR (.thenR (.doneR (ResV.tmp rfl ResV.nil) ?_))))))))))))
   exact ⟨congrArg Ending.returned (congrArg (Value.int .i64) (idxI_yes hu1 (by simpa using hc2'.symm) hn).symm), rfl⟩
  ·skip
   have hc2' := of_decide_eq_false hc2
   refine .skip (.inN (.thenN (.region (.addI rfl rfl rfl (by omega) (.move rfl rfl (.ops0 (.thenN ?_)))))))
   exact fun act_ hact_ => ⟨(k + 1), hact_.sub (Sub.cons rfl (Sub.cons rfl (Sub.cons rfl (Sub.cons rfl Sub.nil)))), ⟨rfl, (by omega), (next_no hn hu1 (by simpa using fun e : u1 = s => hc2' e.symm))⟩, by first | omega | (dsimp only; omega)⟩
 ·skip
  have hc1' := of_decide_eq_false hc1
  refine .exit (.thenE (.thenE (.inE (.thenN (.seq (.region (.assign rfl rfl (.ops0 (.thenN (.retc (.doneR (ResV.tmp rfl ResV.nil) ?_)))))))))))
  exact ⟨congrArg Ending.returned (congrArg (Value.int .i64) (idxI_no (by omega) hn).symm), rfl⟩
theorem contains_any (v : Value) (ss : List ByteArray) (s : ByteArray) (w : World) (hv : StrsAt w v ss) (hl : ss.length ≤ 9223372036854775807) :
  Calls Try.prog 64 ([v, .string s] : List Value).toArray w fun e w' => e = .returned (.bool (memB s ss)) ∧ w = w' := by
 have hB := Below.refl w.heap.size w
 refine At.enter (N := 9) Try.func64 rfl rfl (by simp) [(0, v), (1, .string s)] (by simp) ?_
 refine .seq (.region (.assign rfl rfl (.ops0 (.thenN (.seq (.region (.move rfl rfl (.move rfl rfl ?_))))))))
 refine At.call en85 rfl rfl (index_any v ss s _ ((hv).keep hB) (by omega)) (fun e w' hR => ?_)
 obtain ⟨rfl, rfl⟩ := hR
 refine ⟨_, rfl, ?_⟩
 refine .geq rfl rfl rfl (.assign rfl rfl (.ops0 (.thenN (.retc (.doneR (ResV.tmp rfl ResV.nil) ?_)))))
 exact ⟨congrArg Ending.returned (congrArg Value.bool (idxI_geq _ _)), rfl⟩
theorem indexI_any (v : Value) (ns : List Int) (n : Int) (w : World) (hv : IntsAt w v ns) (hl : ns.length ≤ 9223372036854775807) :
  Calls Try.prog 94 ([v, .int .i64 n] : List Value).toArray w fun e w' => e = .returned (.int .i64 (idxI (fun x : Int => decide (x = n)) ns)) ∧ w = w' := by
 have hB := Below.refl w.heap.size w
 refine At.enter (N := 19) Try.func94 rfl rfl (by simp) [(0, v), (1, .int .i64 n)] (by simp) ?_
 refine .seq (.region (.assign rfl rfl (.ops0 (.thenN (.seq (.seq (.region (.move rfl rfl (.lenSl rfl hv.ok el48 rfl (.move rfl rfl (.ops0 (.thenN (.block ?_)))))))))))))
 refine At.loop (Nat) (fun k => [(0, v), (1, .int .i64 n), (7, .int .i64 (ns.length : Int)), (8, .int .i64 (k : Int))]) (fun k w1 => w = w1 ∧ (k ≤ ns.length) ∧ (∀ i x, i < k → ns[i]? = some x → (fun x : Int => decide (x = n)) x = false)) (fun k => ns.length - k) (0 : Nat) (Sub.cons rfl (Sub.cons rfl (Sub.cons rfl (Sub.cons rfl Sub.nil)))) ⟨rfl, (Nat.zero_le _), (fun j x hj => absurd hj (Nat.not_lt_zero j))⟩ (fun k w1 hI => ?_)
 obtain ⟨rfl, hk, hn⟩ := hI
 show At _ _ [(0, v), (1, .int .i64 n), (7, .int .i64 (ns.length : Int)), (8, .int .i64 (k : Int))] _ _
 refine .seq (.region (.lss rfl rfl rfl (.ops0 (.thenN (.seq ?_)))))
 refine At.cond (b := decide ((k : Int) < (ns.length : Int))) rfl (fun hc1 => ?_) (fun hc1 => ?_)
 ·skip
  have hc1' := of_decide_eq_true hc1
  refine .skip (.thenN (.seq (.block (.seq (.region (.move rfl rfl (.assign rfl rfl (.ops0 (.thenN (.seq (.region (.move rfl rfl (.move rfl rfl (.move rfl rfl ?_))))))))))))))
  obtain ⟨u1, hu1⟩ := some_of_lt (l := ns) (i := k) (by omega)
  refine .indexAddr (i := k) rfl rfl hv.ok (lt_of_some hu1) el48 sz3 rfl (.load rfl (Ld.cell ag3 (cell_keep ((hv).get hu1) hB)) rfl (.eqI rfl rfl rfl (.ops0 (.thenN ?_))))
  refine At.cond (b := decide (n = u1)) rfl (fun hc2 => ?_) (fun hc2 => ?_)
  ·skip
   have hc2' := of_decide_eq_true hc2
   refine .seq (.region (.move rfl rfl (.assign rfl rfl (.ops0 (.thenN (.retc (.inR (.thenR (.thenR (.inR (.thenR (.doneR (ResV.tmp rfl ResV.nil) ?_))))))))))))
   exact ⟨congrArg Ending.returned (congrArg (Value.int .i64) (idxI_yes hu1 (by simpa using hc2'.symm) hn).symm), rfl⟩
  ·skip
   have hc2' := of_decide_eq_false hc2
   refine .skip (.inN (.thenN (.region (.addI rfl rfl rfl (by omega) (.move rfl rfl (.ops0 (.thenN ?_)))))))
   exact fun act_ hact_ => ⟨(k + 1), hact_.sub (Sub.cons rfl (Sub.cons rfl (Sub.cons rfl (Sub.cons rfl Sub.nil)))), ⟨rfl, (by omega), (next_no hn hu1 (by simpa using fun e : u1 = n => hc2' e.symm))⟩, by first | omega | (dsimp only; omega)⟩
 ·skip
  have hc1' := of_decide_eq_false hc1
  refine .exit (.thenE (.thenE (.inE (.thenN (.seq (.region (.assign rfl rfl (.ops0 (.thenN (.retc (.doneR (ResV.tmp rfl ResV.nil) ?_)))))))))))
  exact ⟨congrArg Ending.returned (congrArg (Value.int .i64) (idxI_no (by omega) hn).symm), rfl⟩
theorem containsI_any (v : Value) (ns : List Int) (n : Int) (w : World) (hv : IntsAt w v ns) (hl : ns.length ≤ 9223372036854775807) :
  Calls Try.prog 86 ([v, .int .i64 n] : List Value).toArray w fun e w' => e = .returned (.bool (ns.any fun x => decide (x = n))) ∧ w = w' := by
 have hB := Below.refl w.heap.size w
 refine At.enter (N := 9) Try.func86 rfl rfl (by simp) [(0, v), (1, .int .i64 n)] (by simp) ?_
 refine .seq (.region (.assign rfl rfl (.ops0 (.thenN (.seq (.region (.move rfl rfl (.move rfl rfl ?_))))))))
 refine At.call en94 rfl rfl (indexI_any v ns n _ ((hv).keep hB) (by omega)) (fun e w' hR => ?_)
 obtain ⟨rfl, rfl⟩ := hR
 refine ⟨_, rfl, ?_⟩
 refine .geq rfl rfl rfl (.assign rfl rfl (.ops0 (.thenN (.retc (.doneR (ResV.tmp rfl ResV.nil) ?_)))))
 exact ⟨congrArg Ending.returned (congrArg Value.bool (idxI_geq _ _)), rfl⟩
theorem next_any {b0 : Nat} {en dp : Int} (ts : List Tk) (v : Value) (w : World) (hts : RowsAt w v 4 (ts.map Tk.cs)) (hb0 : w.heap[b0]? = some (.cells #[v, .int .i64 en, .int .i64 dp] 81)) :
  Calls Try.prog 63 ([.pointer (some ⟨b0, 0, none⟩)] : List Value).toArray w fun e w' => e = .returned (.agg (nx en ts).cs) ∧ Below w.heap.size w w' := by
 have hB := Below.refl w.heap.size w
 refine At.enter (N := 20) Try.func63 rfl rfl (by simp) [(0, .pointer (some ⟨b0, 0, none⟩))] (by simp) ?_
 refine .seq (.region ?_)
 refine At.alloc ze47 rfl (fun b1 w1 F1 => ?_)
 have n_b0_b1 : b0 ≠ b1 := Nat.ne_of_lt (F1.lt hb0)
 have gb1 := F1.ge hB
 replace hb0 := F1.old hb0
 have hb1 : w1.heap[b1]? = some (.cells #[zI, zS, zI, zI] 47) := F1.new
 replace hB := F1.below' hB
 refine .ops0 (.thenN (.seq (.seq (.region (.move rfl rfl (.nilCheck rfl rfl (.fieldAddr rfl fo79_0 rfl (.load rfl (Ld.ownCell ag43 hb0 rfl) rfl (.lenSl rfl (hts).okL el43 rfl (.eqI rfl rfl rfl (.ops0 (.thenN ?_))))))))))))
 refine At.cond (b := decide ((ts.length : Int) = 0)) rfl (fun hc1 => ?_) (fun hc1 => ?_)
 ·skip
  have hc1' := of_decide_eq_true hc1
  refine .seq (.region (.move rfl rfl (.nilCheck rfl rfl (.fieldAddr rfl fo79_1 rfl (.load rfl (Ld.ownCell ag3 hb0 rfl) rfl (.build (C := #[zI, zS, zI, .int .i64 en]) sd47 ze47 rfl (Bld.cons fo47_3 rfl (by first | decide | exact Nat.le_of_ble_eq_true rfl) (Bld.nil _)) rfl ?_))))))
  refine At.storeAll rfl rfl hb1 sz47 rfl (by first | (simp [Value.oneCell']; done) | (simp only [List.all_toArray, List.all_cons, List.all_nil, Bool.and_true, Bool.true_and]; rfl)) (fun w2 S1 => ?_)
  replace hb0 := S1.other hb0 n_b0_b1
  replace hb1 : w2.heap[b1]? = some (.cells #[zI, zS, zI, .int .i64 en] 47) := S1.new
  replace hB := S1.below' hB gb1
  refine .ops0 (.thenN (.retc (.thenR (.doneR (ResV.cell rfl (Ld.own (C := #[zI, zS, zI, .int .i64 en]) ag47 sz47 hb1) ResV.nil) ?_))))
  exact ⟨congrArg (fun t : Tk => Ending.returned (.agg t.cs)) (nx_nil hc1').symm, hB⟩
 ·skip
  have hc1' := of_decide_eq_false hc1
  refine .skip (.thenN (.seq (.region (.move rfl rfl (.nilCheck rfl rfl (.fieldAddr rfl fo79_0 rfl (.load rfl (Ld.ownCell ag43 hb0 rfl) rfl ?_)))))))
  obtain ⟨u1, hu1⟩ := some_of_lt (l := ts) (i := 0) (by omega)
  refine .indexAddr (i := 0) rfl rfl (hts).okL (lt_of_some hu1) el43 sz47 rfl (.load rfl (Ld.row ag47 (sz47.trans (congrArg some ((tk_ok u1)).size.symm)) (((hts).row hu1).keep hB)) rfl ?_)
  refine At.storeAll rfl rfl hb1 (sz47.trans (congrArg some ((tk_ok u1)).size.symm)) ((tk_ok u1)).size.symm ((tk_ok u1)).one (fun w3 S2 => ?_)
  replace hb0 := S2.other hb0 n_b0_b1
  replace hb1 : w3.heap[b1]? = some (.cells u1.cs 47) := S2.new
  replace hB := S2.below' hB gb1
  refine .ops0 (.thenN (.retc (.doneR (ResV.cell rfl (Ld.own ag47 (sz47.trans (congrArg some ((tk_ok u1)).size.symm)) hb1) ResV.nil) ?_)))
  exact ⟨congrArg (fun t : Tk => Ending.returned (.agg t.cs)) (nx_at hu1).symm, hB⟩
theorem is_any {b0 : Nat} {en dp : Int} (ts : List Tk) (v : Value) (vs : Value) (ss : List ByteArray) (w : World) (hts : RowsAt w v 4 (ts.map Tk.cs)) (hb0 : w.heap[b0]? = some (.cells #[v, .int .i64 en, .int .i64 dp] 81)) (hss : StrsAt w vs ss) :
  Calls Try.prog 43 ([.pointer (some ⟨b0, 0, none⟩), vs] : List Value).toArray w fun e w' => e = .returned (.bool (isK en ts ss)) ∧ Below w.heap.size w w' := by
 have hsl := hss.len
 have hB := Below.refl w.heap.size w
 refine At.enter (N := 22) Try.func43 rfl rfl (by simp) [(0, .pointer (some ⟨b0, 0, none⟩)), (1, vs)] (by simp) ?_
 refine .seq (.region (.assign rfl rfl (.ops0 (.thenN (.seq (.region (.move rfl rfl ?_)))))))
 refine At.call en63 rfl rfl (next_any ts v _ ((hts).keep hB) hb0) (fun e w1 hR' => ?_)
 obtain ⟨rfl, hbl1⟩ := hR'
 refine ⟨_, rfl, ?_⟩
 replace hb0 := Below.old hbl1 hb0
 replace hB := Below.andThen hB hbl1
 refine At.alloc ze47 rfl (fun b1 w2 F1 => ?_)
 have n_b0_b1 : b0 ≠ b1 := Nat.ne_of_lt (F1.lt hb0)
 have gb1 := F1.ge hB
 replace hb0 := F1.old hb0
 have hb1 : w2.heap[b1]? = some (.cells #[zI, zS, zI, zI] 47) := F1.new
 replace hB := F1.below' hB
 refine At.storeAll rfl rfl hb1 (sz47.trans (congrArg some ((tk_ok (nx en ts))).size.symm)) ((tk_ok (nx en ts))).size.symm ((tk_ok (nx en ts))).one (fun w3 S1 => ?_)
 replace hb0 := S1.other hb0 n_b0_b1
 replace hb1 : w3.heap[b1]? = some (.cells (nx en ts).cs 47) := S1.new
 replace hB := S1.below' hB gb1
 refine .ops0 (.thenN (.seq (.region ?_)))
 refine At.join [(4, .bool ((decide ((nx en ts).k = 4) || decide ((nx en ts).k = 5)) && (memB (bs ((nx en ts).t)) ss)))] (fun w' => w3 = w') ?_ (fun w4 hS => ?_)
 ·skip
  refine .fieldAddr rfl fo47_0 rfl (.load rfl (Ld.ownCell ag3 hb1 ((tk_ok (nx en ts))).c0) rfl (.eqI rfl rfl rfl (.move rfl rfl ?_)))
  refine At.cases (decide ((nx en ts).k = 4)) (fun hg1 => ?_) (fun hg1 => ?_)
  ·skip
   refine .set (d := 11) (u := .bool true) rfl (congrArg Value.bool hg1) ?_
   have hg1' := of_decide_eq_true hg1
   refine .no rfl rfl rfl rfl rfl rfl rfl (.no rfl rfl rfl rfl rfl rfl rfl (.no rfl rfl rfl rfl rfl rfl rfl (.pickT rfl rfl rfl (.move rfl rfl (.yes rfl rfl rfl rfl (.move rfl rfl (.yes rfl rfl rfl rfl (.fieldAddr rfl fo47_1 rfl (.yes rfl rfl rfl rfl (.load rfl (Ld.ownCell ag9 hb1 ((tk_ok (nx en ts))).c1) rfl (.yes rfl rfl rfl rfl ?_)))))))))))
   refine At.call en64 rfl rfl (contains_any vs ss (bs ((nx en ts).t)) _ ((hss).keep hB) (by omega)) (fun e w' hR => ?_)
   obtain ⟨rfl, rfl⟩ := hR
   refine ⟨_, rfl, ?_⟩
   refine .pickT rfl rfl rfl (.assign rfl rfl ?_)
   exact At.joined (Sub.cons (by show some (Value.bool (memB (bs ((nx en ts).t)) ss)) = some (Value.bool ((decide ((nx en ts).k = 4) || decide ((nx en ts).k = 5)) && (memB (bs ((nx en ts).t)) ss))); rw [hg1]; rfl) Sub.nil) rfl
  ·skip
   refine .set (d := 11) (u := .bool false) rfl (congrArg Value.bool hg1) ?_
   have hg1' := of_decide_eq_false hg1
   refine .yes rfl rfl rfl rfl (.fieldAddr rfl fo47_0 rfl (.yes rfl rfl rfl rfl (.load rfl (Ld.ownCell ag3 hb1 ((tk_ok (nx en ts))).c0) rfl (.yes rfl rfl rfl rfl (.eqI rfl rfl rfl (.pickF rfl rfl rfl (.move rfl rfl ?_)))))))
   refine At.cases (decide ((nx en ts).k = 5)) (fun hg2 => ?_) (fun hg2 => ?_)
   ·skip
    refine .set (d := 16) (u := .bool true) rfl (congrArg Value.bool hg2) ?_
    have hg2' := of_decide_eq_true hg2
    refine .yes rfl rfl rfl rfl (.move rfl rfl (.yes rfl rfl rfl rfl (.fieldAddr rfl fo47_1 rfl (.yes rfl rfl rfl rfl (.load rfl (Ld.ownCell ag9 hb1 ((tk_ok (nx en ts))).c1) rfl (.yes rfl rfl rfl rfl ?_))))))
    refine At.call en64 rfl rfl (contains_any vs ss (bs ((nx en ts).t)) _ ((hss).keep hB) (by omega)) (fun e w' hR => ?_)
    obtain ⟨rfl, rfl⟩ := hR
    refine ⟨_, rfl, ?_⟩
    refine .pickT rfl rfl rfl (.assign rfl rfl ?_)
    exact At.joined (Sub.cons (by show some (Value.bool (memB (bs ((nx en ts).t)) ss)) = some (Value.bool ((decide ((nx en ts).k = 4) || decide ((nx en ts).k = 5)) && (memB (bs ((nx en ts).t)) ss))); rw [hg1, hg2]; rfl) Sub.nil) rfl
   ·skip
    refine .set (d := 16) (u := .bool false) rfl (congrArg Value.bool hg2) ?_
    have hg2' := of_decide_eq_false hg2
    refine .no rfl rfl rfl rfl rfl rfl rfl (.no rfl rfl rfl rfl rfl rfl rfl (.no rfl rfl rfl rfl rfl rfl rfl (.no rfl rfl rfl rfl rfl rfl rfl (.pickF rfl rfl rfl (.assign rfl rfl ?_)))))
    exact At.joined (Sub.cons (by show some (Value.bool false) = some (Value.bool ((decide ((nx en ts).k = 4) || decide ((nx en ts).k = 5)) && (memB (bs ((nx en ts).t)) ss))); rw [hg1, hg2]; rfl) Sub.nil) rfl
 ·skip
  subst hS
  refine .thenN (.retc (.doneR (ResV.tmp rfl ResV.nil) ?_))
  exact ⟨rfl, hB⟩
theorem kind_any {b0 : Nat} {en dp : Int} (ts : List Tk) (v : Value) (vk : Value) (ks : List Int) (w : World) (hts : RowsAt w v 4 (ts.map Tk.cs)) (hb0 : w.heap[b0]? = some (.cells #[v, .int .i64 en, .int .i64 dp] 81)) (hks : IntsAt w vk ks) :
  Calls Try.prog 71 ([.pointer (some ⟨b0, 0, none⟩), vk] : List Value).toArray w fun e w' => e = .returned (.bool (kdK en ts ks)) ∧ Below w.heap.size w w' := by
 have hsl := hks.len
 have hB := Below.refl w.heap.size w
 refine At.enter (N := 10) Try.func71 rfl rfl (by simp) [(0, .pointer (some ⟨b0, 0, none⟩)), (1, vk)] (by simp) ?_
 refine .seq (.region (.assign rfl rfl (.ops0 (.thenN (.seq (.region (.move rfl rfl (.move rfl rfl ?_))))))))
 refine At.call en63 rfl rfl (next_any ts v _ ((hts).keep hB) hb0) (fun e w1 hR' => ?_)
 obtain ⟨rfl, hbl1⟩ := hR'
 refine ⟨_, rfl, ?_⟩
 replace hb0 := Below.old hbl1 hb0
 replace hB := Below.andThen hB hbl1
 refine .fieldC rfl ft47_0 ag3 (((tk_ok (nx en ts))).c0) rfl ?_
 refine At.call en86 rfl rfl (containsI_any vk ks ((nx en ts).k) _ ((hks).keep hB) (by omega)) (fun e w' hR => ?_)
 obtain ⟨rfl, rfl⟩ := hR
 refine ⟨_, rfl, ?_⟩
 refine .assign rfl rfl (.ops0 (.thenN (.retc (.doneR (ResV.tmp rfl ResV.nil) ?_))))
 exact ⟨rfl, hB⟩
theorem ptake_any {wB : World} {b0 : Nat} {en dp : Int} (ts : List Tk) (v : Value) (w : World) (hB0 : Below wB.heap.size wB w) (hSge : ∀ k, k = b0 → wB.heap.size ≤ k) (hts : RowsAt wB v 4 (ts.map Tk.cs)) (hb0 : w.heap[b0]? = some (.cells #[v, .int .i64 en, .int .i64 dp] 81)) (hl : 0 < ts.length) :
  Calls Try.prog 74 ([.pointer (some ⟨b0, 0, none⟩)] : List Value).toArray w fun e w' => ∃ v', e = .returned (.agg (nx en ts).cs) ∧ RowsAt wB v' 4 (ts.tail.map Tk.cs) ∧ w'.heap[b0]? = some (.cells #[v', .int .i64 en, .int .i64 dp] 81) ∧ Fr (fun k => k = b0) w w' := by
 have hR := Fr.refl (fun k => k = b0) w
 have hB := hB0
 refine At.enter (N := 15) Try.func74 rfl rfl (by simp) [(0, .pointer (some ⟨b0, 0, none⟩))] (by simp) ?_
 refine .seq (.region ?_)
 refine At.alloc ze47 rfl (fun b1 w1 F1 => ?_)
 have n_b0_b1 : b0 ≠ b1 := Nat.ne_of_lt (F1.lt hb0)
 have gb1 := Nat.le_trans hR.size (Nat.le_of_eq F1.eq.symm)
 replace hb0 := F1.old hb0
 have hb1 : w1.heap[b1]? = some (.cells #[zI, zS, zI, zI] 47) := F1.new
 replace hR := hR.freshF F1
 replace hB := Fr.below hR hB0 hB0.size hSge
 refine .ops0 (.thenN (.seq (.region (.move rfl rfl ?_))))
 refine At.call en63 rfl rfl (next_any ts v _ ((hts).keep hB) hb0) (fun e w2 hR' => ?_)
 obtain ⟨rfl, hbl1⟩ := hR'
 refine ⟨_, rfl, ?_⟩
 replace hb0 := Below.old hbl1 hb0
 replace hb1 := Below.old hbl1 hb1
 replace hR := hR.callF hbl1
 replace hB := Fr.below hR hB0 hB0.size hSge
 refine At.alloc ze47 rfl (fun b2 w3 F2 => ?_)
 have n_b0_b2 : b0 ≠ b2 := Nat.ne_of_lt (F2.lt hb0)
 have n_b1_b2 : b1 ≠ b2 := Nat.ne_of_lt (F2.lt hb1)
 have gb2 := Nat.le_trans hR.size (Nat.le_of_eq F2.eq.symm)
 replace hb0 := F2.old hb0
 replace hb1 := F2.old hb1
 have hb2 : w3.heap[b2]? = some (.cells #[zI, zS, zI, zI] 47) := F2.new
 replace hR := hR.freshF F2
 replace hB := Fr.below hR hB0 hB0.size hSge
 refine At.storeAll rfl rfl hb2 (sz47.trans (congrArg some ((tk_ok (nx en ts))).size.symm)) ((tk_ok (nx en ts))).size.symm ((tk_ok (nx en ts))).one (fun w4 S1 => ?_)
 replace hb0 := S1.other hb0 n_b0_b2
 replace hb1 := S1.other hb1 n_b1_b2
 replace hb2 : w4.heap[b2]? = some (.cells (nx en ts).cs 47) := S1.new
 replace hR := hR.setF S1 (.inr gb2)
 replace hB := Fr.below hR hB0 hB0.size hSge
 refine .ops0 (.thenN (.seq (.region (.move rfl rfl (.move rfl rfl (.nilCheck rfl rfl (.fieldAddr rfl fo79_0 rfl (.load rfl (Ld.ownCell ag43 hb0 rfl) rfl (.sliceFrom (h := 1) rfl rfl (hts.okL) el43 sz47 (by omega) rfl (.nilCheck rfl rfl (.fieldAddr rfl fo79_0 rfl ?_)))))))))))
 refine At.store1 rfl rfl hb0 sz43 (by simp) (tail_rows hts hl).ok.one (fun w5 S2 => ?_)
 replace hb1 := S2.other hb1 n_b0_b1.symm
 replace hb2 := S2.other hb2 n_b0_b2.symm
 replace hb0 : w5.heap[b0]? = some (.cells #[(dropV 4 v 1), .int .i64 en, .int .i64 dp] 81) := S2.new
 replace hR := hR.setF S2 (.inl rfl)
 replace hB := Fr.below hR hB0 hB0.size hSge
 refine .ops0 (.thenN (.seq (.region (.load rfl (Ld.own ag47 (sz47.trans (congrArg some ((tk_ok (nx en ts))).size.symm)) hb2) rfl ?_))))
 refine At.storeAll rfl rfl hb1 (sz47.trans (congrArg some ((tk_ok (nx en ts))).size.symm)) ((tk_ok (nx en ts))).size.symm ((tk_ok (nx en ts))).one (fun w6 S3 => ?_)
 replace hb0 := S3.other hb0 n_b0_b1
 replace hb2 := S3.other hb2 n_b1_b2.symm
 replace hb1 : w6.heap[b1]? = some (.cells (nx en ts).cs 47) := S3.new
 replace hR := hR.setF S3 (.inr gb1)
 replace hB := Fr.below hR hB0 hB0.size hSge
 refine .ops0 (.thenN (.retc (.doneR (ResV.cell rfl (Ld.own ag47 (sz47.trans (congrArg some ((tk_ok (nx en ts))).size.symm)) hb1) ResV.nil) ?_)))
 exact ⟨_, rfl, tail_rows hts hl, hb0, hR⟩
theorem fail_any {wB : World} {b0 : Nat} {en dp : Int} (ts : List Tk) (v : Value) {α : Type} (okv : α → Value → World → Prop) (w : World) (hB0 : Below wB.heap.size wB w) (hSge : ∀ k, k = b0 → wB.heap.size ≤ k) (hts : RowsAt wB v 4 (ts.map Tk.cs)) (hb0 : w.heap[b0]? = some (.cells #[v, .int .i64 en, .int .i64 dp] 81)) :
  Calls Try.prog 47 ([.pointer (some ⟨b0, 0, none⟩)] : List Value).toArray w fun e w' => RetP (fun k => k = b0) wB b0 en dp okv (failP en ts) w e w' := by
 have hR := Fr.refl (fun k => k = b0) w
 have hB := hB0
 refine At.enter (N := 9) Try.func47 rfl rfl (by simp) [(0, .pointer (some ⟨b0, 0, none⟩))] (by simp) ?_
 refine .region (.move rfl rfl (.nilCheck rfl rfl (.fieldAddr rfl fo81_0 rfl ?_)))
 refine At.call en63 rfl rfl (next_any ts v _ ((hts).keep hB) hb0) (fun e w1 hR' => ?_)
 obtain ⟨rfl, hbl1⟩ := hR'
 refine ⟨_, rfl, ?_⟩
 replace hb0 := Below.old hbl1 hb0
 replace hR := hR.callF hbl1
 replace hB := Fr.below hR hB0 hB0.size hSge
 refine .fieldC rfl ft47_3 ag3 (((tk_ok (nx en ts))).c3) rfl (.build (C := #[.int .i64 ((nx en ts).a), .int .i64 3]) sd75 ze75 rfl (Bld.cons fo75_0 rfl (by first | decide | exact Nat.le_of_ble_eq_true rfl) (Bld.cons fo75_1 rfl (by first | decide | exact Nat.le_of_ble_eq_true rfl) (Bld.nil _))) rfl (.iface rfl cc75 rfl (.panicI rfl ?_)))
 exact (Pk.body (RetP.bad (by simp only [failP, SB] <;> rfl) hR ⟨_, _, hb0⟩))
theorem word_any {wB : World} {b0 : Nat} {en dp : Int} (ts : List Tk) (v : Value) (k : Int) (w : World) (hB0 : Below wB.heap.size wB w) (hSge : ∀ k, k = b0 → wB.heap.size ≤ k) (hts : RowsAt wB v 4 (ts.map Tk.cs)) (hb0 : w.heap[b0]? = some (.cells #[v, .int .i64 en, .int .i64 dp] 81)) (hk0 : k ≠ 0) :
  Calls Try.prog 66 ([.pointer (some ⟨b0, 0, none⟩), .int .i64 k] : List Value).toArray w fun e w' => RetP (fun k => k = b0) wB b0 en dp okTk (wordP en k ts) w e w' := by
 have hR := Fr.refl (fun k => k = b0) w
 have hB := hB0
 refine At.enter (N := 18) Try.func66 rfl rfl (by simp) [(0, .pointer (some ⟨b0, 0, none⟩)), (1, .int .i64 k)] (by simp) ?_
 refine .seq (.region ?_)
 refine At.alloc ze47 rfl (fun b1 w1 F1 => ?_)
 have n_b0_b1 : b0 ≠ b1 := Nat.ne_of_lt (F1.lt hb0)
 have gb1 := Nat.le_trans hR.size (Nat.le_of_eq F1.eq.symm)
 replace hb0 := F1.old hb0
 have hb1 : w1.heap[b1]? = some (.cells #[zI, zS, zI, zI] 47) := F1.new
 replace hR := hR.freshF F1
 replace hB := Fr.below hR hB0 hB0.size hSge
 refine .ops0 (.thenN (.seq (.seq (.region (.move rfl rfl (.nilCheck rfl rfl (.fieldAddr rfl fo81_0 rfl (.move rfl rfl ?_))))))))
 refine At.buildSlice (xs := [.tmp 8]) rfl rfl el48 sz3 ze3 (by intro v hv; simp only [List.mem_cons, List.not_mem_nil, or_false] at hv; rcases hv with rfl <;> first | rfl | simp [Value.cells]) rfl (by decide) rfl (fun b2 w2 F2 => ?_)
 have n_b0_b2 : b0 ≠ b2 := Nat.ne_of_lt (F2.lt hb0)
 have n_b1_b2 : b1 ≠ b2 := Nat.ne_of_lt (F2.lt hb1)
 have gb2 := Nat.le_trans hR.size (Nat.le_of_eq F2.eq.symm)
 replace hb0 := F2.old hb0
 replace hb1 := F2.old hb1
 have hb2 : w2.heap[b2]? = some (.cells #[.int .i64 k] 3) := F2.new
 replace hR := hR.freshF F2
 replace hB := Fr.below hR hB0 hB0.size hSge
 refine At.call en71 rfl rfl (kind_any ts v (.slice (some ⟨b2, 0, none⟩) 1 1) ([k]) _ ((hts).keep hB) hb0 ((IntsAt.own (l := [k]) hb2 rfl (by decide) : IntsAt _ (.slice (some ⟨b2, 0, none⟩) 1 1) [k]))) (fun e w3 hR' => ?_)
 obtain ⟨rfl, hbl1⟩ := hR'
 refine ⟨_, rfl, ?_⟩
 replace hb0 := Below.old hbl1 hb0
 replace hb1 := Below.old hbl1 hb1
 replace hb2 := Below.old hbl1 hb2
 replace hR := hR.callF hbl1
 replace hB := Fr.below hR hB0 hB0.size hSge
 refine .not rfl rfl (.ops0 (.thenN ?_))
 refine At.cond (b := (!(kdK en ts ([k])))) rfl (fun hc1 => ?_) (fun hc1 => ?_)
 ·skip
  have hc1n := bnot_t hc1
  refine .region (.move rfl rfl ?_)
  refine At.callP en47 rfl rfl (fail_any ts v (α := Unit) (fun _ _ _ => True) _ hB hSge hts hb0) (fun e w' hR' => ?_)
  obtain ⟨rfl, hF1, hbb⟩ := RetP.failed hR'
  exact .inr ⟨_, rfl, (Pk.then (Pk.body (RetP.bad (by simp only [wordP, failP, SB, hc1n] <;> rfl) (Fr.then hR hF1 (fun k hk => .inl hk)) hbb)))⟩
 ·skip
  have hc1n := bnot_f hc1
  refine .skip (.thenN (.seq (.region (.move rfl rfl (.nilCheck rfl rfl (.fieldAddr rfl fo81_0 rfl ?_))))))
  refine At.call en74 rfl rfl (ptake_any ts v _ hB hSge hts hb0 (kd_len hc1n (by simp [hk0]))) (fun e wp2 hR' => ?_)
  obtain ⟨vr2, rfl, hts2, hbo2, hF2⟩ := hR'
  refine ⟨_, rfl, ?_⟩
  replace hb1 := Fr.oldB hF2 hb1 (n_b0_b1.symm)
  replace hb2 := Fr.oldB hF2 hb2 (n_b0_b2.symm)
  replace hb0 := hbo2
  replace hR := Fr.then hR hF2 (fun k hk => .inl hk)
  replace hB := Fr.below hR hB0 hB0.size hSge
  refine At.storeAll rfl rfl hb1 (sz47.trans (congrArg some ((tk_ok (nx en ts))).size.symm)) ((tk_ok (nx en ts))).size.symm ((tk_ok (nx en ts))).one (fun w4 S1 => ?_)
  replace hb0 := S1.other hb0 n_b0_b1
  replace hb2 := S1.other hb2 n_b1_b2.symm
  replace hb1 : w4.heap[b1]? = some (.cells (nx en ts).cs 47) := S1.new
  replace hR := hR.setF S1 (.inr gb1)
  replace hB := Fr.below hR hB0 hB0.size hSge
  refine .ops0 (.thenN (.retc (.doneR (ResV.cell rfl (Ld.own ag47 (sz47.trans (congrArg some ((tk_ok (nx en ts))).size.symm)) hb1) ResV.nil) ?_)))
  exact RetP.ok (by simp only [wordP, failP, SB, hc1n] <;> rfl) hR hts2 hb0 rfl
theorem ptext_any {wB : World} {b0 : Nat} {en dp : Int} (ts : List Tk) (v : Value) (vs : Value) (ss : List ByteArray) (w : World) (hB0 : Below wB.heap.size wB w) (hSge : ∀ k, k = b0 → wB.heap.size ≤ k) (hts : RowsAt wB v 4 (ts.map Tk.cs)) (hb0 : w.heap[b0]? = some (.cells #[v, .int .i64 en, .int .i64 dp] 81)) (hss : StrsAt w vs ss) (hne : ss ≠ [] → vBlock vs ≠ b0) :
  Calls Try.prog 65 ([.pointer (some ⟨b0, 0, none⟩), vs] : List Value).toArray w fun e w' => RetP (fun k => k = b0) wB b0 en dp okU (textP en ss ts) w e w' := by
 have hsl := hss.len
 have hR := Fr.refl (fun k => k = b0) w
 have hB := hB0
 refine At.enter (N := 26) Try.func65 rfl rfl (by simp) [(0, .pointer (some ⟨b0, 0, none⟩)), (1, vs)] (by simp) ?_
 refine .seq (.region (.move rfl rfl (.lenSl rfl (hss).ok el29 rfl (.move rfl rfl (.ops0 (.thenN (.block ?_)))))))
 refine At.loop (Nat × List Tk × Value) (fun (k, us, vr) => [(0, .pointer (some ⟨b0, 0, none⟩)), (6, vs), (7, .int .i64 (ss.length : Int)), (8, .int .i64 (k : Int))]) (fun (k, us, vr) w1 => Fr (fun k => k = b0) w w1 ∧ w1.heap[b0]? = some (.cells #[vr, .int .i64 en, .int .i64 dp] 81) ∧ StrsAt w1 vs ss ∧ (k ≤ ss.length) ∧ (RowsAt wB vr 4 (us.map Tk.cs)) ∧ (textP en ss ts = textP en (ss.drop k) us)) (fun (k, us, vr) => ss.length - k) (0, ts, v) (Sub.cons rfl (Sub.cons rfl (Sub.cons rfl (Sub.cons rfl Sub.nil)))) ⟨hR, hb0, hss, (Nat.zero_le _), (hts), (rfl)⟩ (fun gh w1 hI => ?_)
 obtain ⟨k, us, vr⟩ := gh
 clear hR hB hb0 hss
 obtain ⟨hR, hb0, hss, hkb, hus, hs⟩ := hI
 have hB := Fr.below hR hB0 hB0.size hSge
 show At _ _ [(0, .pointer (some ⟨b0, 0, none⟩)), (6, vs), (7, .int .i64 (ss.length : Int)), (8, .int .i64 (k : Int))] _ _
 refine .seq (.region (.lss rfl rfl rfl (.ops0 (.thenN (.seq ?_)))))
 refine At.cond (b := decide ((k : Int) < (ss.length : Int))) rfl (fun hc1 => ?_) (fun hc1 => ?_)
 ·skip
  have hc1' := of_decide_eq_true hc1
  refine .skip (.thenN (.seq (.block (.seq (.region ?_)))))
  obtain ⟨u1, hu1⟩ := some_of_lt (l := ss) (i := k) (by omega)
  refine .indexAddr (i := k) rfl rfl (hss).ok (lt_of_some hu1) el29 sz9 rfl (.load rfl (Ld.cell ag9 (cell_keep ((hss).get hu1) (Below.refl _ _))) rfl (.assign rfl rfl (.ops0 (.thenN (.seq (.seq (.region (.move rfl rfl (.nilCheck rfl rfl (.fieldAddr rfl fo81_0 rfl (.move rfl rfl ?_)))))))))))
  refine At.buildSlice (xs := [.tmp 15]) rfl rfl el29 sz9 ze9 (by intro v hv; simp only [List.mem_cons, List.not_mem_nil, or_false] at hv; rcases hv with rfl <;> first | rfl | simp [Value.cells]) rfl (by decide) rfl (fun b1 w2 F1 => ?_)
  have n_b0_b1 : b0 ≠ b1 := Nat.ne_of_lt (F1.lt hb0)
  have gb1 := Nat.le_trans hR.size (Nat.le_of_eq F1.eq.symm)
  replace hb0 := F1.old hb0
  replace hss := hss.fresh F1
  have hb1 : w2.heap[b1]? = some (.cells #[.string u1] 9) := F1.new
  replace hR := hR.freshF F1
  replace hB := Fr.below hR hB0 hB0.size hSge
  refine At.call en43 rfl rfl (is_any us vr (.slice (some ⟨b1, 0, none⟩) 1 1) ([u1]) _ ((hus).keep hB) hb0 ((StrsAt.own (ss := [u1]) hb1 rfl (by decide) : StrsAt _ (.slice (some ⟨b1, 0, none⟩) 1 1) [u1]))) (fun e w3 hR' => ?_)
  obtain ⟨rfl, hbl1⟩ := hR'
  refine ⟨_, rfl, ?_⟩
  replace hb0 := Below.old hbl1 hb0
  replace hb1 := Below.old hbl1 hb1
  replace hss := hss.below hbl1
  replace hR := hR.callF hbl1
  replace hB := Fr.below hR hB0 hB0.size hSge
  refine .not rfl rfl (.ops0 (.thenN ?_))
  refine At.cond (b := (!(isK en us ([u1])))) rfl (fun hc2 => ?_) (fun hc2 => ?_)
  ·skip
   have hc2n := bnot_t hc2
   refine .region (.move rfl rfl ?_)
   refine At.callP en47 rfl rfl (fail_any us vr (α := Unit) (fun _ _ _ => True) _ hB hSge hus hb0) (fun e w' hR' => ?_)
   obtain ⟨rfl, hF1, hbb⟩ := RetP.failed hR'
   exact .inr ⟨_, rfl, (Pk.then (Pk.block (Pk.then (Pk.then (Pk.block (Pk.body (RetP.bad (by rw [hs, drop_cons hu1, textP]; simp only [failP, SB, hc1, hc2n] <;> rfl) (Fr.then hR hF1 (fun k hk => .inl hk)) hbb)))))))⟩
  ·skip
   have hc2n := bnot_f hc2
   refine .skip (.thenN (.region (.move rfl rfl (.nilCheck rfl rfl (.fieldAddr rfl fo81_0 rfl ?_)))))
   refine At.call en74 rfl rfl (ptake_any us vr _ hB hSge hus hb0 (is_len hc2n)) (fun e wp2 hR' => ?_)
   obtain ⟨vr2, rfl, hts2, hbo2, hF2⟩ := hR'
   refine ⟨_, rfl, ?_⟩
   replace hb1 := Fr.oldB hF2 hb1 (n_b0_b1.symm)
   replace hss := StrsAt.frB hss hF2 hne
   replace hb0 := hbo2
   replace hR := Fr.then hR hF2 (fun k hk => .inl hk)
   replace hB := Fr.below hR hB0 hB0.size hSge
   refine .ops0 (.inN (.thenN (.region (.addI rfl rfl rfl (by omega) (.move rfl rfl (.ops0 (.thenN ?_)))))))
   exact fun act_ hact_ => ⟨((k + 1), us.tail, vr2), hact_.sub (Sub.cons rfl (Sub.cons rfl (Sub.cons rfl (Sub.cons rfl Sub.nil)))), ⟨hR, hb0, hss, (by omega), (hts2), (by rw [hs, drop_cons hu1, textP]; simp only [hc1, hc2n, cond_true])⟩, by first | omega | (dsimp only; omega)⟩
 ·skip
  have hc1' := of_decide_eq_false hc1
  refine .exit (.thenE (.thenE (.inE (.doneN (ResV.nil) ?_))))
  exact RetP.ok (by rw [hs, List.drop_eq_nil_of_le (by omega), textP]) hR hus hb0 rfl
end Go.Proofs.Ytkjmjnddanhapaa
