/-
  The walk of the statement LexCuts. Written by a program of ours.
-/
import Derived.Test.YtkalnkedpiemaaaV6
import Derived.Test.YtkalnkedpiemaaaL12
set_option linter.unusedVariables false
set_option linter.unusedSimpArgs false
namespace Go.Proofs.Ytkalnkedpiemaaa
open Go.RowKit

theorem lexCuts_any (v : Value) (l : List UInt8) (i : Int) (m : Int) (w : World) (hv : BytesAt w v l)(hm : w.cell? ⟨0, 0, none⟩ = some (.int .i64 m)) :
    Calls Try.prog 8 ([v, .int .i64 i] : List Value).toArray w fun e w' => e = .returned (.bool true) ∧ Below w.heap.size w w' := by
  have hB := Below.refl w.heap.size w
  refine At.enter (N := 62) Try.func8 rfl rfl (by simp) [(0, v), (1, .int .i64 i)] (by simp) ?_
  refine At.seq ?_
  refine At.region ?_
  refine At.assign rfl rfl ?_
  refine At.ops0 ?_
  refine At.thenN ?_
  refine At.seq ?_
  refine At.region ?_
  refine At.call en10 rfl rfl (shown_any m _ (cell_keep hm hB)) (fun e w1 hR => ?_)
  obtain ⟨rfl, hbl1⟩ := hR
  refine ⟨_, rfl, ?_⟩
  replace hB := Below.andThen hB hbl1
  refine At.assign rfl rfl ?_
  refine At.ops0 ?_
  refine At.thenN ?_
  refine At.seq ?_
  refine At.region ?_
  refine At.move rfl rfl ?_
  refine At.move rfl rfl ?_
  refine At.lenSl rfl (BytesAt.ok hv) el22 rfl ?_
  refine At.minI rfl rfl rfl ?_
  refine At.set (d := 17) (u := .int .i64 (((min l.length 1000) : Nat) : Int)) rfl (congrArg (Value.int .i64) (min_lit _ _)) ?_
  have hle1 : (min l.length 1000) ≤ l.length := by omega
  refine At.sliceTo (h := (min l.length 1000)) rfl rfl (BytesAt.ok hv) el22 sz5 hle1 rfl ?_
  obtain ⟨S1, hS1, bS1⟩ : ∃ x : List UInt8, (l.take (min l.length 1000)) = x ∧ x.length ≤ 1000 := ⟨_, rfl, by simp only [List.length_take]; omega⟩
  refine At.assign rfl rfl ?_
  refine At.ops0 ?_
  refine At.thenN ?_
  refine At.seq ?_
  refine At.region ?_
  refine At.move rfl rfl ?_
  refine At.call en11 rfl rfl (lex_to (takeV v (min l.length 1000)) S1 m _ (lexT S1) (lexA S1) (lexE S1) ⟨rfl, rfl, rfl⟩ (BytesAt.keep (BytesAt.eqL (BytesAt.take hv hle1) hS1) hB) (cell_keep hm hB)) (fun e w2 hR => ?_)
  obtain ⟨vt1, rfl, hbl2, hO1, ghO1⟩ := hR
  refine ⟨_, rfl, ?_⟩
  replace ghO1 : ∀ g, Value.ownBlock vt1 = some g → w.heap.size ≤ g := fun g h => Nat.le_trans hB.size (ghO1 g h)
  replace hB := Below.andThen hB hbl2
  refine At.move rfl rfl ?_
  refine At.extract rfl rfl rfl ?_
  refine At.extract rfl rfl rfl ?_
  refine At.extract rfl rfl rfl ?_
  refine At.assign rfl rfl ?_
  refine At.assign rfl rfl ?_
  refine At.assign rfl rfl ?_
  refine At.ops0 ?_
  refine At.thenN ?_
  refine At.seq ?_
  refine At.seq ?_
  refine At.region ?_
  refine At.move rfl rfl ?_
  refine At.neI rfl rfl rfl ?_
  refine At.move rfl rfl ?_
  refine At.cases ((!decide ((lexE S1) = 0))) (fun hg1 => ?_) (fun hg1 => ?_)
  · skip
    refine At.set (d := 27) (u := .bool true) rfl (congrArg Value.bool hg1) ?_
    have hg1' := hg1; simp only [Bool.not_eq_true', Bool.not_eq_false', decide_eq_true_eq, decide_eq_false_iff_not] at hg1'
    refine At.no rfl rfl rfl rfl rfl rfl rfl ?_
    refine At.no rfl rfl rfl rfl rfl rfl rfl ?_
    refine At.no rfl rfl rfl rfl rfl rfl rfl ?_
    refine At.pickT rfl rfl rfl ?_
    refine At.ops0 ?_
    refine At.thenN ?_
    refine At.condT rfl ?_
    refine At.seq ?_
    refine At.region ?_
    refine At.move rfl rfl ?_
    refine At.assign rfl rfl ?_
    refine At.ops0 ?_
    refine At.thenN ?_
    refine At.retc ?_
    refine At.thenR ?_
    refine At.doneR (ResV.tmp rfl ResV.nil) ?_
    exact ⟨rfl, hB⟩
  · skip
    refine At.set (d := 27) (u := .bool false) rfl (congrArg Value.bool hg1) ?_
    have hg1' := hg1; simp only [Bool.not_eq_true', Bool.not_eq_false', decide_eq_true_eq, decide_eq_false_iff_not] at hg1'
    refine At.yes rfl rfl rfl rfl ?_
    refine At.move rfl rfl ?_
    refine At.yes rfl rfl rfl rfl ?_
    refine At.lenSl rfl (Own.slOk hO1) el24 rfl ?_
    refine At.yes rfl rfl rfl rfl ?_
    refine At.eqI rfl rfl rfl ?_
    refine At.pickF rfl rfl rfl ?_
    refine At.ops0 ?_
    refine At.thenN ?_
    refine At.cond (b := decide (((lexT S1).length : Int) = 0)) rfl (fun hc1 => ?_) (fun hc1 => ?_)
    · skip
      have hc1' := of_decide_eq_true hc1
      refine At.seq ?_
      refine At.region ?_
      refine At.move rfl rfl ?_
      refine At.assign rfl rfl ?_
      refine At.ops0 ?_
      refine At.thenN ?_
      refine At.retc ?_
      refine At.thenR ?_
      refine At.doneR (ResV.tmp rfl ResV.nil) ?_
      exact ⟨rfl, hB⟩
    · skip
      have hc1' := of_decide_eq_false hc1
      refine At.skip ?_
      refine At.thenN ?_
      refine At.seq ?_
      have hW := words_of (l := S1) (by simpa using hg1); have hlen := hW.len
      refine At.region ?_
      refine At.move rfl rfl ?_
      refine At.andI rfl rfl rfl ?_
      refine At.move rfl rfl ?_
      refine At.lenSl rfl (Own.slOk hO1) el24 rfl ?_
      refine At.remI rfl rfl (by omega) rfl ?_
      refine At.assign rfl rfl ?_
      refine At.ops0 ?_
      refine At.thenN ?_
      refine At.seq ?_
      obtain ⟨k, hk, hkl⟩ := rem_pick i (n := (lexT S1).length) (by omega)
      refine At.set (d := 9) (u := .int .i64 (k : Int)) rfl (congrArg (Value.int .i64) hk) ?_
      obtain ⟨x, hx⟩ := some_of_lt (l := lexT S1) (i := k) hkl
      obtain ⟨q, hxa, hql, hcut⟩ := lexW_cut _ S1 (Nat.le_refl _) 0 _ hW.lex k x hx
      rw [Nat.zero_add] at hxa
      have hxp : x = (Tk.put x q) := by cases x; simp only [Tk.put] at hxa ⊢; rw [hxa]
      have hx' : (lexT S1)[k]? = some (Tk.put x q) := hxp ▸ hx
      refine At.region ?_
      refine At.move rfl rfl ?_
      refine At.move rfl rfl ?_
      refine At.move rfl rfl ?_
      refine At.indexAddr (i := k) rfl rfl (Own.slOk hO1) (lt_of_some hx') el24 sz31 rfl ?_
      refine At.fieldAddr rfl fo31_3 rfl ?_
      refine At.load rfl (Ld.cell ag3 (cell_keep ((((OwnR.rows hO1 (fun u hu => (((fun u _ => tk_ok u)) u hu).size))).row hx').get ((((fun u _ => tk_ok u)) (Tk.put x q) (List.mem_of_getElem? hx'))).c3) (Below.refl _ _))) rfl ?_
      refine At.set (d := 44) (u := .int .i64 (q : Int)) rfl (congrArg (Value.int .i64) rfl) ?_
      have hle2 : q ≤ S1.length := by omega
      refine At.sliceTo (h := q) rfl rfl (BytesAt.ok (BytesAt.eqL (BytesAt.take hv hle1) hS1)) el22 sz5 hle2 rfl ?_
      refine At.call en11 rfl rfl (lex_to (takeV (takeV v (min l.length 1000)) q) (S1.take q) m _ ((lexT S1).take k) 0 0 (lex_ok (by rw [List.length_take]; omega) hcut) (BytesAt.keep (BytesAt.take (BytesAt.eqL (BytesAt.take hv hle1) hS1) hle2) hB) (cell_keep hm hB)) (fun e w3 hR => ?_)
      obtain ⟨vt2, rfl, hbl3, hO2, ghO2⟩ := hR
      refine ⟨_, rfl, ?_⟩
      replace ghO2 : ∀ g, Value.ownBlock vt2 = some g → w.heap.size ≤ g := fun g h => Nat.le_trans hB.size (ghO2 g h)
      replace hO1 := hO1.below hbl3
      replace hB := Below.andThen hB hbl3
      refine At.move rfl rfl ?_
      refine At.extract rfl rfl rfl ?_
      refine At.extract rfl rfl rfl ?_
      refine At.extract rfl rfl rfl ?_
      refine At.assign rfl rfl ?_
      refine At.assign rfl rfl ?_
      refine At.assign rfl rfl ?_
      refine At.ops0 ?_
      refine At.thenN ?_
      refine At.seq ?_
      refine At.region ?_
      refine At.move rfl rfl ?_
      refine At.move rfl rfl ?_
      refine At.yes rfl rfl rfl rfl ?_
      refine At.move rfl rfl ?_
      refine At.yes rfl rfl rfl rfl ?_
      refine At.eqI rfl rfl rfl ?_
      refine At.pickT rfl rfl rfl ?_
      refine At.move rfl rfl ?_
      have hbb1 : (decide (0 = 0)) = true := by decide
      refine At.set (d := 55) (u := .bool true) rfl (congrArg Value.bool hbb1) ?_
      refine At.yes rfl rfl rfl rfl ?_
      refine At.move rfl rfl ?_
      refine At.yes rfl rfl rfl rfl ?_
      refine At.move rfl rfl ?_
      refine At.yes rfl rfl rfl rfl ?_
      refine At.move rfl rfl ?_
      refine At.yes rfl rfl rfl rfl ?_
      have hle3 : k ≤ (lexT S1).length := by omega
      refine At.sliceTo (h := k) rfl rfl (Own.slOk hO1) el24 sz31 hle3 rfl ?_
      refine At.yes rfl rfl rfl rfl ?_
      refine At.call en13 rfl rfl (same_any vt2 (takeV vt1 k) ((lexT S1).take k) ((lexT S1).take k) true _ (OwnR.rows hO2 (fun u hu => (((fun u _ => tk_ok u)) u hu).size)) (rows_take (OwnR.rows hO1 (fun u hu => (((fun u _ => tk_ok u)) u hu).size)) hle3) (by simp only [List.length_take]; omega)) (fun e w4 hR => ?_)
      obtain ⟨rfl, hbl4⟩ := hR
      refine ⟨_, rfl, ?_⟩
      replace hO1 := hO1.below hbl4
      replace hO2 := hO2.below hbl4
      replace hB := Below.andThen hB hbl4
      refine At.pickT rfl rfl rfl ?_
      refine At.assign rfl rfl ?_
      refine At.ops0 ?_
      refine At.thenN ?_
      refine At.retc ?_
      refine At.doneR (ResV.tmp rfl ResV.nil) ?_
      exact ⟨congrArg Ending.returned (congrArg Value.bool (show ((sameB true ((lexT S1).take k) ((lexT S1).take k))) = true from sameB_true.2 rfl)), hB⟩
end Go.Proofs.Ytkalnkedpiemaaa
