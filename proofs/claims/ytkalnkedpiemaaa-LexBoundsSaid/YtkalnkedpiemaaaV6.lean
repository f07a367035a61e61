/-
  The walk of the statement LexAlone. Written by a program of ours.
-/
import Derived.Test.YtkalnkedpiemaaaV5
import Derived.Test.YtkalnkedpiemaaaL10
set_option linter.unusedVariables false
set_option linter.unusedSimpArgs false
namespace Go.Proofs.Ytkalnkedpiemaaa
open Go.RowKit
theorem en10 : entB Try.prog 10 = true := by kernel_rfl
theorem en13 : entB Try.prog 13 = true := by kernel_rfl
theorem lexAlone_any (v : Value) (l : List UInt8) (m : Int) (w : World) (hv : BytesAt w v l)(hm : w.cell? ⟨0, 0, none⟩ = some (.int .i64 m)) :
    Calls Try.prog 7 ([v] : List Value).toArray w fun e w' => e = .returned (.bool true) ∧ Below w.heap.size w w' := by
  have hB := Below.refl w.heap.size w
  refine At.enter (N := 73) Try.func7 rfl rfl (by simp) [(0, v)] (by simp) ?_
  refine At.seq ?_
  refine At.region ?_
  refine At.assign rfl rfl ?_
  refine At.ops0 ?_
  refine At.thenN ?_
  refine At.seq ?_
  refine At.region ?_
  refine At.call en10 rfl rfl (shown_any m _ (cell_keep hm hB)) (fun e w1 hR => ?_)
  obtain ⟨rfl, hbl1⟩ := hR
  refine ⟨_, rfl, ?_⟩
  replace hB := Below.andThen hB hbl1
  refine At.assign rfl rfl ?_
  refine At.ops0 ?_
  refine At.thenN ?_
  refine At.seq ?_
  refine At.region ?_
  refine At.move rfl rfl ?_
  refine At.move rfl rfl ?_
  refine At.lenSl rfl (BytesAt.ok hv) el22 rfl ?_
  refine At.minI rfl rfl rfl ?_
  refine At.set (d := 15) (u := .int .i64 (((min l.length 2000) : Nat) : Int)) rfl (congrArg (Value.int .i64) (min_lit _ _)) ?_
  have hle1 : (min l.length 2000) ≤ l.length := by omega
  refine At.sliceTo (h := (min l.length 2000)) rfl rfl (BytesAt.ok hv) el22 sz5 hle1 rfl ?_
  obtain ⟨S1, hS1, bS1⟩ : ∃ x : List UInt8, (l.take (min l.length 2000)) = x ∧ x.length ≤ 2000 := ⟨_, rfl, by simp only [List.length_take]; omega⟩
  refine At.assign rfl rfl ?_
  refine At.ops0 ?_
  refine At.thenN ?_
  refine At.seq ?_
  refine At.region ?_
  refine At.move rfl rfl ?_
  refine At.call en11 rfl rfl (lex_to (takeV v (min l.length 2000)) S1 m _ (lexT S1) (lexA S1) (lexE S1) ⟨rfl, rfl, rfl⟩ (BytesAt.keep (BytesAt.eqL (BytesAt.take hv hle1) hS1) hB) (cell_keep hm hB)) (fun e w2 hR => ?_)
  obtain ⟨vt1, rfl, hbl2, hO1, ghO1⟩ := hR
  refine ⟨_, rfl, ?_⟩
  replace ghO1 : ∀ g, Value.ownBlock vt1 = some g → w.heap.size ≤ g := fun g h => Nat.le_trans hB.size (ghO1 g h)
  replace hB := Below.andThen hB hbl2
  refine At.move rfl rfl ?_
  refine At.extract rfl rfl rfl ?_
  refine At.extract rfl rfl rfl ?_
  refine At.extract rfl rfl rfl ?_
  refine At.assign rfl rfl ?_
  refine At.assign rfl rfl ?_
  refine At.assign rfl rfl ?_
  refine At.ops0 ?_
  refine At.thenN ?_
  refine At.seq ?_
  refine At.seq ?_
  refine At.region ?_
  refine At.move rfl rfl ?_
  refine At.neI rfl rfl rfl ?_
  refine At.ops0 ?_
  refine At.thenN ?_
  refine At.cond (b := (!decide ((lexE S1) = 0))) rfl (fun hc1 => ?_) (fun hc1 => ?_)
  · skip
    have hc1' := hc1; simp only [Bool.not_eq_true', Bool.not_eq_false', decide_eq_true_eq, decide_eq_false_iff_not] at hc1'
    refine At.seq ?_
    refine At.region ?_
    refine At.move rfl rfl ?_
    refine At.assign rfl rfl ?_
    refine At.ops0 ?_
    refine At.thenN ?_
    refine At.retc ?_
    refine At.thenR ?_
    refine At.doneR (ResV.tmp rfl ResV.nil) ?_
    exact ⟨rfl, hB⟩
  · skip
    have hc1' := hc1; simp only [Bool.not_eq_true', Bool.not_eq_false', decide_eq_true_eq, decide_eq_false_iff_not] at hc1'
    refine At.skip ?_
    refine At.thenN ?_
    refine At.seq ?_
    refine At.seq ?_
    have hW := words_of (l := S1) (by simpa using hc1); have hlen := hW.len
    refine At.region ?_
    refine At.assign rfl rfl ?_
    refine At.ops0 ?_
    refine At.thenN ?_
    refine At.block ?_
    refine At.loop (Nat) (fun k => [(3, .bool true), (4, vt1), (7, .int .i64 (k : Int))]) (fun k w3 => Below w.heap.size w w3 ∧ OwnR 31 4 Tk.cs w3 vt1 (lexT S1) ∧ (k ≤ (lexT S1).length)) (fun k => (lexT S1).length - k) (0 : Nat) (Sub.cons rfl (Sub.cons rfl (Sub.cons rfl Sub.nil))) ⟨hB, hO1, (Nat.zero_le _)⟩ (fun k w3 hI => ?_)
    clear hB hO1
    obtain ⟨hB, hO1, hkb⟩ := hI
    show At _ _ [(3, .bool true), (4, vt1), (7, .int .i64 (k : Int))] _ _
    refine At.seq ?_
    refine At.seq ?_
    refine At.region ?_
    refine At.move rfl rfl ?_
    refine At.move rfl rfl ?_
    refine At.lenSl rfl (Own.slOk hO1) el24 rfl ?_
    refine At.lss rfl rfl rfl ?_
    refine At.ops0 ?_
    refine At.thenN ?_
    refine At.cond (b := decide ((k : Int) < ((lexT S1).length : Int))) rfl (fun hc2 => ?_) (fun hc2 => ?_)
    · skip
      have hc2' := of_decide_eq_true hc2
      refine At.skip ?_
      refine At.thenN ?_
      refine At.seq ?_
      refine At.block ?_
      refine At.seq ?_
      obtain ⟨x, hx⟩ := some_of_lt (l := lexT S1) (i := k) (by omega)
      have hxm := List.mem_of_getElem? hx; have hxt := hW.tok x hxm; have hwd := hW.wd x hxm; have hsum := hW.sum; have hxw := textW_le_sum _ x hxm
      refine At.region ?_
      refine At.move rfl rfl ?_
      refine At.move rfl rfl ?_
      refine At.move rfl rfl ?_
      refine At.addI rfl rfl rfl (by omega) ?_
      refine At.sliceLH (lo := k) (hi := (k + 1)) rfl rfl rfl (Own.slOk hO1) el24 sz31 (by omega) (by omega) rfl ?_
      refine At.call en12 rfl rfl (text_any (takeV (dropV 4 vt1 k) ((k + 1) - k)) ([x]) _ (rows_eq (rows_part (OwnR.rows hO1 (fun u hu => (((fun u _ => tk_ok u)) u hu).size)) (lo := k) (hi := (k + 1)) (by omega) (by omega)) (part_one hx)) (by simp) (fun t ht => by rw [List.mem_singleton] at ht; subst ht; omega) (by rw [textL_one]; omega)) (fun e w4 hR => ?_)
      obtain ⟨rfl, hbl3⟩ := hR
      refine ⟨_, rfl, ?_⟩
      replace hO1 := hO1.below hbl3
      replace hB := Below.andThen hB hbl3
      refine At.toBytes (l := (textL ([x]))) rfl st9 el22 ik5 (by rw [textL_one]; omega) rfl (fun b1 cap1 w5 hgbb1 hbl4 hby1 => ?_)
      replace hO1 := hO1.below hbl4
      replace hB := Below.andThen hB hbl4
      refine At.call en11 rfl rfl (lex_to (.slice (some ⟨b1, 0, none⟩) (textL ([x])).length cap1) (textL ([x])) m _ ([(Tk.put x 0)]) 0 0 (lex_ok (by rw [textL_one]; omega) (by rw [textL_one]; exact lexW_one hwd 0)) (BytesAt.keep hby1 (Below.refl _ _)) (cell_keep hm hB)) (fun e w6 hR => ?_)
      obtain ⟨vt2, rfl, hbl5, hO2, ghO2⟩ := hR
      refine ⟨_, rfl, ?_⟩
      replace ghO2 : ∀ g, Value.ownBlock vt2 = some g → w.heap.size ≤ g := fun g h => Nat.le_trans hB.size (ghO2 g h)
      replace hO1 := hO1.below hbl5
      replace hby1 := hby1.below hbl5
      replace hB := Below.andThen hB hbl5
      refine At.move rfl rfl ?_
      refine At.extract rfl rfl rfl ?_
      refine At.extract rfl rfl rfl ?_
      refine At.extract rfl rfl rfl ?_
      refine At.assign rfl rfl ?_
      refine At.assign rfl rfl ?_
      refine At.assign rfl rfl ?_
      refine At.ops0 ?_
      refine At.thenN ?_
      refine At.seq ?_
      refine At.region ?_
      refine At.move rfl rfl ?_
      refine At.neI rfl rfl rfl ?_
      refine At.move rfl rfl ?_
      have hbb1 : ((!decide (0 = 0))) = false := by first | rfl | decide | (rw [sameB_strip (by rfl)]; rfl) | simp
      refine At.set (d := 46) (u := .bool false) rfl (congrArg Value.bool hbb1) ?_
      refine At.yes rfl rfl rfl rfl ?_
      refine At.move rfl rfl ?_
      refine At.yes rfl rfl rfl rfl ?_
      refine At.neI rfl rfl rfl ?_
      refine At.pickF rfl rfl rfl ?_
      refine At.move rfl rfl ?_
      have hbb2 : ((!decide (0 = 0))) = false := by first | rfl | decide | (rw [sameB_strip (by rfl)]; rfl) | simp
      refine At.set (d := 50) (u := .bool false) rfl (congrArg Value.bool hbb2) ?_
      refine At.yes rfl rfl rfl rfl ?_
      refine At.move rfl rfl ?_
      refine At.yes rfl rfl rfl rfl ?_
      refine At.lenSl rfl (Own.slOk hO2) el24 rfl ?_
      refine At.yes rfl rfl rfl rfl ?_
      refine At.neI rfl rfl rfl ?_
      refine At.pickF rfl rfl rfl ?_
      refine At.move rfl rfl ?_
      have hbb3 : ((!decide (([(Tk.put x 0)].length : Int) = 1))) = false := by first | rfl | decide | (rw [sameB_strip (by rfl)]; rfl) | simp
      refine At.set (d := 55) (u := .bool false) rfl (congrArg Value.bool hbb3) ?_
      refine At.yes rfl rfl rfl rfl ?_
      refine At.move rfl rfl ?_
      refine At.yes rfl rfl rfl rfl ?_
      refine At.indexAddr (i := 0) rfl rfl (Own.slOk hO2) (lt_of_some (show [(Tk.put x 0)][0]? = some (Tk.put x 0) from rfl)) el24 sz31 rfl ?_
      refine At.yes rfl rfl rfl rfl ?_
      refine At.fieldAddr rfl fo31_3 rfl ?_
      refine At.yes rfl rfl rfl rfl ?_
      refine At.load rfl (Ld.cell ag3 (cell_keep ((((OwnR.rows hO2 (fun u hu => (((fun u _ => tk_ok u)) u hu).size))).row (show [(Tk.put x 0)][0]? = some (Tk.put x 0) from rfl)).get ((((fun u _ => tk_ok u)) (Tk.put x 0) (List.mem_of_getElem? (show [(Tk.put x 0)][0]? = some (Tk.put x 0) from rfl)))).c3) (Below.refl _ _))) rfl ?_
      refine At.yes rfl rfl rfl rfl ?_
      refine At.neI rfl rfl rfl ?_
      refine At.pickF rfl rfl rfl ?_
      refine At.move rfl rfl ?_
      have hbb4 : ((!decide (0 = 0))) = false := by first | rfl | decide | (rw [sameB_strip (by rfl)]; rfl) | simp
      refine At.set (d := 62) (u := .bool false) rfl (congrArg Value.bool hbb4) ?_
      refine At.yes rfl rfl rfl rfl ?_
      refine At.move rfl rfl ?_
      refine At.yes rfl rfl rfl rfl ?_
      refine At.move rfl rfl ?_
      refine At.yes rfl rfl rfl rfl ?_
      refine At.move rfl rfl ?_
      refine At.yes rfl rfl rfl rfl ?_
      refine At.move rfl rfl ?_
      refine At.yes rfl rfl rfl rfl ?_
      refine At.addI rfl rfl rfl (by omega) ?_
      refine At.yes rfl rfl rfl rfl ?_
      refine At.sliceLH (lo := k) (hi := (k + 1)) rfl rfl rfl (Own.slOk hO1) el24 sz31 (by omega) (by omega) rfl ?_
      refine At.yes rfl rfl rfl rfl ?_
      refine At.call en13 rfl rfl (same_any vt2 (takeV (dropV 4 vt1 k) ((k + 1) - k)) ([(Tk.put x 0)]) ([x]) false _ (OwnR.rows hO2 (fun u hu => (((fun u _ => tk_ok u)) u hu).size)) (rows_eq (rows_part (OwnR.rows hO1 (fun u hu => (((fun u _ => tk_ok u)) u hu).size)) (lo := k) (hi := (k + 1)) (by omega) (by omega)) (part_one hx)) (by simp)) (fun e w7 hR => ?_)
      obtain ⟨rfl, hbl6⟩ := hR
      refine ⟨_, rfl, ?_⟩
      replace hO1 := hO1.below hbl6
      replace hby1 := hby1.below hbl6
      replace hO2 := hO2.below hbl6
      replace hB := Below.andThen hB hbl6
      refine At.yes rfl rfl rfl rfl ?_
      refine At.not rfl rfl ?_
      refine At.pickF rfl rfl rfl ?_
      refine At.ops0 ?_
      refine At.thenN ?_
      have hb : ((!(sameB false ([(Tk.put x 0)]) ([x])))) = false := by first | rfl | decide | (rw [sameB_strip (by rfl)]; rfl) | simp
      refine At.set (d := 71) (u := .bool false) rfl (congrArg Value.bool hb) ?_
      refine At.condF rfl ?_
      refine At.skip ?_
      refine At.inN ?_
      refine At.thenN ?_
      refine At.region ?_
      refine At.move rfl rfl ?_
      refine At.addI rfl rfl rfl (by omega) ?_
      refine At.assign rfl rfl ?_
      refine At.ops0 ?_
      refine At.thenN ?_
      exact fun act_ hact_ => ⟨(k + 1), hact_.sub (Sub.cons rfl (Sub.cons rfl (Sub.cons rfl Sub.nil))), ⟨hB, hO1, (by omega)⟩, by first | omega | (dsimp only; omega)⟩
    · skip
      have hc2' := of_decide_eq_false hc2
      refine At.exit ?_
      refine At.thenE ?_
      refine At.thenE ?_
      refine At.inE ?_
      refine At.thenN ?_
      refine At.seq ?_
      refine At.region ?_
      refine At.move rfl rfl ?_
      refine At.assign rfl rfl ?_
      refine At.ops0 ?_
      refine At.thenN ?_
      refine At.retc ?_
      refine At.doneR (ResV.tmp rfl ResV.nil) ?_
      exact ⟨rfl, hB⟩
end Go.Proofs.Ytkalnkedpiemaaa
