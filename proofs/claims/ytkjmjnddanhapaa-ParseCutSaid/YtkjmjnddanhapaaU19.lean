/-
 The walk of ParseCut. Written by a program of ours.
-/
import Derived.Test.YtkjmjnddanhapaaN26
import Derived.Test.YtkjmjnddanhapaaU10
set_option linter.unusedVariables false
set_option linter.unusedSimpArgs false
namespace Go.Proofs.Ytkjmjnddanhapaa
open Go.RowKit
theorem en12 : entB Try.prog 12 = true := by kernel_rfl
theorem cut_any (v : Value) (l : List UInt8) (i : Int) (m : Int) (w : World) (hv : BytesAt w v l) (hm : w.cell? ⟨0, 0, none⟩ = some (.int .i64 m)) :
  Calls Try.prog 4 ([v, .int .i64 i] : List Value).toArray w fun e w' => e = .returned (.bool true) ∧ Below w.heap.size w w' := by
 have hB := Below.refl w.heap.size w
 refine At.enter (N := 79) Try.func4 rfl rfl (by simp) [(0, v), (1, .int .i64 i)] (by simp) ?_
 refine At.seq ?_
 refine At.region ?_
 refine At.assign rfl rfl ?_
 refine At.ops0 ?_
 refine At.thenN ?_
 refine At.seq ?_
 refine At.region ?_
 refine At.call en12 rfl rfl (shown_any m _ (cell_keep hm hB)) (fun e w1 hR => ?_)
 obtain ⟨rfl, hbl1⟩ := hR
 refine ⟨_, rfl, ?_⟩
 replace hB := Below.andThen hB hbl1
 refine At.assign rfl rfl ?_
 refine At.ops0 ?_
 refine At.thenN ?_
 refine At.seq ?_
 refine At.region ?_
 refine At.move rfl rfl ?_
 refine At.move rfl rfl ?_
 refine At.lenSl rfl (BytesAt.ok hv) el22 rfl ?_
 refine At.minI rfl rfl rfl ?_
 refine At.set (d := 21) (u := .int .i64 (((min l.length 1000) : Nat) : Int)) rfl (congrArg (Value.int .i64) (min_lit _ _)) ?_
 have hle1 : (min l.length 1000) ≤ l.length := by first | omega | (simp; done) | (simp; omega)
 refine At.sliceTo (h := (min l.length 1000)) rfl rfl (BytesAt.ok hv) el22 sz5 hle1 rfl ?_
 obtain ⟨S1, hS1, bS1⟩ : ∃ x : List UInt8, (l.take (min l.length 1000)) = x ∧ x.length ≤ 1000 := ⟨_, rfl, by simp only [List.length_take]; omega⟩
 refine At.assign rfl rfl ?_
 refine At.ops0 ?_
 refine At.thenN ?_
 refine At.seq ?_
 refine At.region ?_
 refine At.move rfl rfl ?_
 have hml1 : MLt w1.heap.size [] := (MLt.nil _)
 refine At.call en13 rfl rfl (parse_any (takeV v (min l.length 1000)) S1 m _ (BytesAt.keep (BytesAt.eqL (BytesAt.take hv hle1) hS1) hB) (cell_keep hm hB)) (fun e w2 hR => ?_)
 obtain ⟨pr1, rfl, hbl2, hpk1, hsh1, hpl1, hpb1⟩ := hR
 refine ⟨_, rfl, ?_⟩
 replace hB := Below.andThen hB hbl2
 have hXp1 := Xs.of_new (B := 0) (M := []) (K := kPr) hpk1 (fun b hb => .inr (hpb1 b hb)) (fun _ _ => Nat.zero_le _) hml1
 clear hpk1 hpb1 hml1
 refine At.move rfl rfl ?_
 refine At.extract rfl rfl rfl ?_
 refine At.extract rfl rfl rfl ?_
 refine At.extract rfl rfl rfl ?_
 refine At.alloc ze37 rfl (fun b1 w3 F1 => ?_)
 have gb1 := F1.ge hB
 replace hXp1 := Xs.fresh hXp1 F1
 have hb1 : w3.heap[b1]? = some (.cells #[zN, zN, zI, zI, zS, zS, zI, zN, zN, zI, zS, zI, zN, zN, zI, zN, zI, zI, zS, zI, zN, zN, zI] 37) := F1.new
 replace hB := F1.below' hB
 refine At.storeAll rfl rfl hb1 (sz37.trans (congrArg some ((Xs.one hXp1)).size.symm)) ((Xs.one hXp1)).size.symm ((Xs.one hXp1)).one (fun w4 S2 => ?_)
 replace hXp1 := Xs.set hXp1 S2 (by simp)
 replace hb1 : w4.heap[b1]? = some (.cells pr1.cs 37) := S2.new
 replace hB := S2.below' hB gb1
 refine At.assign rfl rfl ?_
 refine At.assign rfl rfl ?_
 refine At.ops0 ?_
 refine At.thenN ?_
 refine At.seq ?_
 refine At.region ?_
 refine At.move rfl rfl ?_
 refine At.call en15 rfl rfl (lex_any (takeV v (min l.length 1000)) S1 m _ (BytesAt.keep (BytesAt.eqL (BytesAt.take hv hle1) hS1) hB) (cell_keep hm hB)) (fun e w5 hR => ?_)
 obtain ⟨vt1, rfl, hbl3, hO1, ghO1⟩ := hR
 refine ⟨_, rfl, ?_⟩
 replace ghO1 : ∀ g, Value.ownBlock vt1 = some g → w.heap.size ≤ g := fun g h => Nat.le_trans hB.size (ghO1 g h)
 replace hb1 := Below.old hbl3 hb1
 replace hXp1 := Xs.below hXp1 hbl3
 replace hB := Below.andThen hB hbl3
 refine At.move rfl rfl ?_
 refine At.extract rfl rfl rfl ?_
 refine At.extract rfl rfl rfl ?_
 refine At.extract rfl rfl rfl ?_
 refine At.assign rfl rfl ?_
 refine At.assign rfl rfl ?_
 refine At.assign rfl rfl ?_
 refine At.ops0 ?_
 refine At.thenN ?_
 refine At.seq ?_
 refine At.seq ?_
 refine At.region ?_
 refine At.move rfl rfl ?_
 refine At.neI rfl rfl rfl ?_
 refine At.move rfl rfl ?_
 refine At.cases ((!decide ((parseR S1).2.2 = 0))) (fun hg1 => ?_) (fun hg1 => ?_)
 ·skip
  refine At.set (d := 37) (u := .bool true) rfl (congrArg Value.bool hg1) ?_
  have hg1' := hg1; simp only [Bool.not_eq_true', Bool.not_eq_false', decide_eq_true_eq, decide_eq_false_iff_not] at hg1'
  refine At.no rfl rfl rfl rfl rfl rfl rfl ?_
  refine At.no rfl rfl rfl rfl rfl rfl rfl ?_
  refine At.no rfl rfl rfl rfl rfl rfl rfl ?_
  refine At.pickT rfl rfl rfl ?_
  refine At.ops0 ?_
  refine At.thenN ?_
  refine At.condT rfl ?_
  refine At.seq ?_
  refine At.region ?_
  refine At.move rfl rfl ?_
  refine At.assign rfl rfl ?_
  refine At.ops0 ?_
  refine At.thenN ?_
  refine At.retc ?_
  refine At.thenR ?_
  refine At.doneR (ResV.tmp rfl ResV.nil) ?_
  exact ⟨rfl, hB⟩
 ·skip
  refine At.set (d := 37) (u := .bool false) rfl (congrArg Value.bool hg1) ?_
  have hg1' := hg1; simp only [Bool.not_eq_true', Bool.not_eq_false', decide_eq_true_eq, decide_eq_false_iff_not] at hg1'
  refine At.yes rfl rfl rfl rfl ?_
  refine At.move rfl rfl ?_
  refine At.yes rfl rfl rfl rfl ?_
  refine At.lenSl rfl (Own.slOk hO1) el43 rfl ?_
  refine At.yes rfl rfl rfl rfl ?_
  refine At.eqI rfl rfl rfl ?_
  refine At.pickF rfl rfl rfl ?_
  refine At.ops0 ?_
  refine At.thenN ?_
  refine At.cond (b := decide (((lexT S1).length : Int) = 0)) rfl (fun hc1 => ?_) (fun hc1 => ?_)
  ·skip
   have hc1' := of_decide_eq_true hc1
   refine At.seq ?_
   refine At.region ?_
   refine At.move rfl rfl ?_
   refine At.assign rfl rfl ?_
   refine At.ops0 ?_
   refine At.thenN ?_
   refine At.retc ?_
   refine At.thenR ?_
   refine At.doneR (ResV.tmp rfl ResV.nil) ?_
   exact ⟨rfl, hB⟩
  ·skip
   have hc1' := of_decide_eq_false hc1
   refine At.skip ?_
   refine At.thenN ?_
   refine At.seq ?_
   refine At.region ?_
   refine At.move rfl rfl ?_
   refine At.andI rfl rfl rfl ?_
   refine At.move rfl rfl ?_
   refine At.lenSl rfl (Own.slOk hO1) el43 rfl ?_
   refine At.remI rfl rfl (by first | omega | (simp; done) | (simp; omega)) rfl ?_
   refine At.assign rfl rfl ?_
   refine At.ops0 ?_
   refine At.thenN ?_
   refine At.seq ?_
   obtain ⟨xp, us, hpo, _⟩ := (parse_zero (l := S1) (by simpa using hg1)).2
   obtain ⟨k, hk, hkl⟩ := rem_pick i (n := (lexT S1).length) (by omega)
   refine At.set (d := 12) (u := .int .i64 (k : Int)) rfl (congrArg (Value.int .i64) hk) ?_
   obtain ⟨x, hx⟩ := some_of_lt (l := lexT S1) (i := k) hkl
   obtain ⟨q, hxa, hql, hcut⟩ := cut_parse (l := S1) (by omega) hpo hx
   have hxp : x = (Tk.put x q) := by cases x; simp only [Tk.put] at hxa ⊢; rw [hxa]
   have hx' : (lexT S1)[k]? = some (Tk.put x q) := hxp ▸ hx
   refine At.region ?_
   refine At.move rfl rfl ?_
   refine At.move rfl rfl ?_
   refine At.indexAddr (i := k) rfl rfl (Own.slOk hO1) (lt_of_some hx') el43 sz47 rfl ?_
   refine At.fieldAddr rfl fo47_3 rfl ?_
   refine At.load rfl (Ld.cell ag3 (cell_keep ((((OwnR.rows hO1 (fun u hu => (((fun u _ => tk_ok u)) u hu).size))).row hx').get ((((fun u _ => tk_ok u)) (Tk.put x q) (List.mem_of_getElem? hx'))).c3) (Below.refl _ _))) rfl ?_
   refine At.set (d := 52) (u := .int .i64 (q : Int)) rfl (congrArg (Value.int .i64) rfl) ?_
   refine At.assign rfl rfl ?_
   refine At.ops0 ?_
   refine At.thenN ?_
   refine At.seq ?_
   refine At.region ?_
   refine At.move rfl rfl ?_
   refine At.move rfl rfl ?_
   have hle2 : q ≤ S1.length := by first | omega | (simp; done) | (simp; omega)
   refine At.sliceTo (h := q) rfl rfl (BytesAt.ok (BytesAt.eqL (BytesAt.take hv hle1) hS1)) el22 sz5 hle2 rfl ?_
   have hml2 : MLt w5.heap.size [some b1, Value.ownBlock vt1] := (MLt.blk hb1 (MLt.own hO1 (MLt.nil _)))
   refine At.call en13 rfl rfl (parse_any (takeV (takeV v (min l.length 1000)) q) (S1.take q) m _ (BytesAt.keep (BytesAt.take (BytesAt.eqL (BytesAt.take hv hle1) hS1) hle2) hB) (cell_keep hm hB)) (fun e w6 hR => ?_)
   obtain ⟨pr2, rfl, hbl4, hpk2, hsh2, hpl2, hpb2⟩ := hR
   refine ⟨_, rfl, ?_⟩
   replace hb1 := Below.old hbl4 hb1
   replace hO1 := hO1.below hbl4
   replace hXp1 := Xs.below hXp1 hbl4
   replace hB := Below.andThen hB hbl4
   have hXp2 := Xs.of_new (B := 0) (M := [some b1, Value.ownBlock vt1]) (K := kPr) hpk2 (fun b hb => .inr (hpb2 b hb)) (fun _ _ => Nat.zero_le _) hml2
   clear hpk2 hpb2 hml2
   refine At.move rfl rfl ?_
   refine At.extract rfl rfl rfl ?_
   refine At.extract rfl rfl rfl ?_
   refine At.extract rfl rfl rfl ?_
   refine At.alloc ze37 rfl (fun b2 w7 F2 => ?_)
   have n_b1_b2 : b1 ≠ b2 := Nat.ne_of_lt (F2.lt hb1)
   have gb2 := F2.ge hB
   replace hb1 := F2.old hb1
   replace hO1 := hO1.fresh F2
   replace hXp1 := Xs.fresh hXp1 F2
   replace hXp2 := Xs.fresh hXp2 F2
   have hb2 : w7.heap[b2]? = some (.cells #[zN, zN, zI, zI, zS, zS, zI, zN, zN, zI, zS, zI, zN, zN, zI, zN, zI, zI, zS, zI, zN, zN, zI] 37) := F2.new
   replace hB := F2.below' hB
   refine At.storeAll rfl rfl hb2 (sz37.trans (congrArg some ((Xs.one hXp2)).size.symm)) ((Xs.one hXp2)).size.symm ((Xs.one hXp2)).one (fun w8 S3 => ?_)
   replace hb1 := S3.other hb1 n_b1_b2
   replace hO1 := hO1.set S3 (hO1.neT hb2 rfl)
   replace hXp1 := Xs.set hXp1 S3 (by simp)
   replace hXp2 := Xs.set hXp2 S3 (by simp)
   replace hb2 : w8.heap[b2]? = some (.cells pr2.cs 37) := S3.new
   replace hB := S3.below' hB gb2
   refine At.assign rfl rfl ?_
   refine At.assign rfl rfl ?_
   refine At.ops0 ?_
   refine At.thenN ?_
   refine At.seq ?_
   refine At.region ?_
   refine At.move rfl rfl ?_
   refine At.move rfl rfl ?_
   refine At.yes rfl rfl rfl rfl ?_
   refine At.move rfl rfl ?_
   refine At.yes rfl rfl rfl rfl ?_
   refine At.eqI rfl rfl rfl ?_
   refine At.yes rfl rfl rfl rfl ?_
   refine At.move rfl rfl ?_
   refine At.cases (decide ((parseR (S1.take q)).2.2 = 0)) (fun hg2 => ?_) (fun hg2 => ?_)
   ·skip
    refine At.set (d := 65) (u := .bool true) rfl (congrArg Value.bool hg2) ?_
    have hg2' := of_decide_eq_true hg2
    refine At.no rfl rfl rfl rfl rfl rfl rfl ?_
    refine At.no rfl rfl rfl rfl rfl rfl rfl ?_
    refine At.no rfl rfl rfl rfl rfl rfl rfl ?_
    refine At.noU rfl rfl rfl rfl rfl rfl ?_
    refine At.noU rfl rfl rfl rfl rfl rfl ?_
    refine At.noU rfl rfl rfl rfl rfl rfl ?_
    refine At.no rfl rfl rfl rfl rfl rfl rfl ?_
    refine At.yes rfl rfl rfl rfl ?_
    refine At.pickT rfl rfl rfl ?_
    refine At.yes rfl rfl rfl rfl ?_
    refine At.move rfl rfl ?_
    refine At.no rfl rfl rfl rfl rfl rfl rfl ?_
    refine At.no rfl rfl rfl rfl rfl rfl rfl ?_
    refine At.yes rfl rfl rfl rfl ?_
    refine At.pickT rfl rfl rfl ?_
    refine At.pickT rfl rfl rfl ?_
    refine At.assign rfl rfl ?_
    refine At.ops0 ?_
    refine At.thenN ?_
    refine At.retc ?_
    refine At.doneR (ResV.tmp rfl ResV.nil) ?_
    exact ⟨rfl, hB⟩
   ·skip
    refine At.set (d := 65) (u := .bool false) rfl (congrArg Value.bool hg2) ?_
    have hg2' := of_decide_eq_false hg2
    refine At.yes rfl rfl rfl rfl ?_
    refine At.move rfl rfl ?_
    refine At.yes rfl rfl rfl rfl ?_
    refine At.eqI rfl rfl rfl ?_
    refine At.yes rfl rfl rfl rfl ?_
    refine At.move rfl rfl ?_
    refine At.cases (decide ((parseR (S1.take q)).2.2 = 3)) (fun hg3 => ?_) (fun hg3 => ?_)
    ·skip
     refine At.set (d := 68) (u := .bool true) rfl (congrArg Value.bool hg3) ?_
     have hg3' := of_decide_eq_true hg3
     refine At.yes rfl rfl rfl rfl ?_
     refine At.move rfl rfl ?_
     refine At.yes rfl rfl rfl rfl ?_
     refine At.move rfl rfl ?_
     refine At.yes rfl rfl rfl rfl ?_
     refine At.eqI rfl rfl rfl ?_
     refine At.yes rfl rfl rfl rfl ?_
     refine At.pickT rfl rfl rfl ?_
     refine At.yes rfl rfl rfl rfl ?_
     refine At.pickF rfl rfl rfl ?_
     refine At.yes rfl rfl rfl rfl ?_
     refine At.move rfl rfl ?_
     refine At.cases (decide ((parseR (S1.take q)).2.1 = (q : Int))) (fun hg4 => ?_) (fun hg4 => ?_)
     ·skip
      refine At.set (d := 74) (u := .bool true) rfl (congrArg Value.bool hg4) ?_
      have hg4' := of_decide_eq_true hg4
      refine At.no rfl rfl rfl rfl rfl rfl rfl ?_
      refine At.no rfl rfl rfl rfl rfl rfl rfl ?_
      refine At.yes rfl rfl rfl rfl ?_
      refine At.pickT rfl rfl rfl ?_
      refine At.pickT rfl rfl rfl ?_
      refine At.assign rfl rfl ?_
      refine At.ops0 ?_
      refine At.thenN ?_
      refine At.retc ?_
      refine At.doneR (ResV.tmp rfl ResV.nil) ?_
      exact ⟨rfl, hB⟩
     ·skip
      refine At.set (d := 74) (u := .bool false) rfl (congrArg Value.bool hg4) ?_
      have hg4' := of_decide_eq_false hg4
      refine At.yes rfl rfl rfl rfl ?_
      refine At.move rfl rfl ?_
      refine At.yes rfl rfl rfl rfl ?_
      refine At.eqI rfl rfl rfl ?_
      refine At.yes rfl rfl rfl rfl ?_
      refine At.pickF rfl rfl rfl ?_
      refine At.pickT rfl rfl rfl ?_
      refine At.assign rfl rfl ?_
      refine At.ops0 ?_
      refine At.thenN ?_
      refine At.retc ?_
      refine At.doneR (ResV.tmp rfl ResV.nil) ?_
      exact ⟨congrArg (fun b => Ending.returned (.bool b)) (by have hg := And.intro trivial (And.intro hg4 (And.intro hg3 (And.intro hg2 (trivial)))); clear hx hx'; rcases hcut with h | h | h <;> simp [h] at hg ⊢), hB⟩
    ·skip
     refine At.set (d := 68) (u := .bool false) rfl (congrArg Value.bool hg3) ?_
     have hg3' := of_decide_eq_false hg3
     refine At.no rfl rfl rfl rfl rfl rfl rfl ?_
     refine At.no rfl rfl rfl rfl rfl rfl rfl ?_
     refine At.no rfl rfl rfl rfl rfl rfl rfl ?_
     refine At.yes rfl rfl rfl rfl ?_
     refine At.pickF rfl rfl rfl ?_
     refine At.yes rfl rfl rfl rfl ?_
     refine At.pickF rfl rfl rfl ?_
     refine At.yes rfl rfl rfl rfl ?_
     refine At.move rfl rfl ?_
     refine At.yes rfl rfl rfl rfl ?_
     refine At.move rfl rfl ?_
     refine At.yes rfl rfl rfl rfl ?_
     refine At.eqI rfl rfl rfl ?_
     refine At.yes rfl rfl rfl rfl ?_
     refine At.pickF rfl rfl rfl ?_
     refine At.pickT rfl rfl rfl ?_
     refine At.assign rfl rfl ?_
     refine At.ops0 ?_
     refine At.thenN ?_
     refine At.retc ?_
     refine At.doneR (ResV.tmp rfl ResV.nil) ?_
     exact ⟨congrArg (fun b => Ending.returned (.bool b)) (by have hg := And.intro trivial (And.intro hg3 (And.intro hg2 (trivial))); clear hx hx'; rcases hcut with h | h | h <;> simp [h] at hg ⊢), hB⟩
end Go.Proofs.Ytkjmjnddanhapaa
