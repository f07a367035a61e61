/-
  The walk of the statement LexJoins. Written by a program of ours.
-/
import Derived.Test.YtkalnkedpiemaaaV6
import Derived.Test.YtkalnkedpiemaaaL14
set_option linter.unusedVariables false
set_option linter.unusedSimpArgs false
namespace Go.Proofs.Ytkalnkedpiemaaa
open Go.RowKit
theorem by5 : bytesB Try.prog 5 = some 1 := by kernel_rfl
theorem lexJoins_any (v : Value) (l : List UInt8) (v2 : Value) (l2 : List UInt8) (m : Int) (w : World) (hv : BytesAt w v l) (hv2 : BytesAt w v2 l2) (hm : w.cell? ⟨0, 0, none⟩ = some (.int .i64 m)) :
    Calls Try.prog 9 ([v, v2] : List Value).toArray w fun e w' => e = .returned (.bool true) ∧ Below w.heap.size w w' := by
  have hB := Below.refl w.heap.size w
  refine At.enter (N := 122) Try.func9 rfl rfl (by simp) [(0, v), (1, v2)] (by simp) ?_
  refine At.seq ?_
  refine At.region ?_
  refine At.assign rfl rfl ?_
  refine At.ops0 ?_
  refine At.thenN ?_
  refine At.seq ?_
  refine At.region ?_
  refine At.call en10 rfl rfl (shown_any m _ (cell_keep hm hB)) (fun e w1 hR => ?_)
  obtain ⟨rfl, hbl1⟩ := hR
  refine ⟨_, rfl, ?_⟩
  replace hB := Below.andThen hB hbl1
  refine At.assign rfl rfl ?_
  refine At.ops0 ?_
  refine At.thenN ?_
  refine At.seq ?_
  refine At.region ?_
  refine At.move rfl rfl ?_
  refine At.move rfl rfl ?_
  refine At.lenSl rfl (BytesAt.ok hv) el22 rfl ?_
  refine At.minI rfl rfl rfl ?_
  refine At.set (d := 21) (u := .int .i64 (((min l.length 1000) : Nat) : Int)) rfl (congrArg (Value.int .i64) (min_lit _ _)) ?_
  have hle1 : (min l.length 1000) ≤ l.length := by omega
  refine At.sliceTo (h := (min l.length 1000)) rfl rfl (BytesAt.ok hv) el22 sz5 hle1 rfl ?_
  obtain ⟨S1, hS1, bS1⟩ : ∃ x : List UInt8, (l.take (min l.length 1000)) = x ∧ x.length ≤ 1000 := ⟨_, rfl, by simp only [List.length_take]; omega⟩
  refine At.assign rfl rfl ?_
  refine At.ops0 ?_
  refine At.thenN ?_
  refine At.seq ?_
  refine At.region ?_
  refine At.move rfl rfl ?_
  refine At.move rfl rfl ?_
  refine At.lenSl rfl (BytesAt.ok hv2) el22 rfl ?_
  refine At.minI rfl rfl rfl ?_
  refine At.set (d := 26) (u := .int .i64 (((min l2.length 1000) : Nat) : Int)) rfl (congrArg (Value.int .i64) (min_lit _ _)) ?_
  have hle2 : (min l2.length 1000) ≤ l2.length := by omega
  refine At.sliceTo (h := (min l2.length 1000)) rfl rfl (BytesAt.ok hv2) el22 sz5 hle2 rfl ?_
  obtain ⟨S2, hS2, bS2⟩ : ∃ x : List UInt8, (l2.take (min l2.length 1000)) = x ∧ x.length ≤ 1000 := ⟨_, rfl, by simp only [List.length_take]; omega⟩
  refine At.assign rfl rfl ?_
  refine At.ops0 ?_
  refine At.thenN ?_
  refine At.seq ?_
  refine At.region ?_
  refine At.move rfl rfl ?_
  refine At.call en11 rfl rfl (lex_to (takeV v (min l.length 1000)) S1 m _ (lexT S1) (lexA S1) (lexE S1) ⟨rfl, rfl, rfl⟩ (BytesAt.keep (BytesAt.eqL (BytesAt.take hv hle1) hS1) hB) (cell_keep hm hB)) (fun e w2 hR => ?_)
  obtain ⟨vt1, rfl, hbl2, hO1, ghO1⟩ := hR
  refine ⟨_, rfl, ?_⟩
  replace ghO1 : ∀ g, Value.ownBlock vt1 = some g → w.heap.size ≤ g := fun g h => Nat.le_trans hB.size (ghO1 g h)
  replace hB := Below.andThen hB hbl2
  refine At.move rfl rfl ?_
  refine At.extract rfl rfl rfl ?_
  refine At.extract rfl rfl rfl ?_
  refine At.extract rfl rfl rfl ?_
  refine At.assign rfl rfl ?_
  refine At.assign rfl rfl ?_
  refine At.assign rfl rfl ?_
  refine At.ops0 ?_
  refine At.thenN ?_
  refine At.seq ?_
  refine At.region ?_
  refine At.move rfl rfl ?_
  refine At.call en11 rfl rfl (lex_to (takeV v2 (min l2.length 1000)) S2 m _ (lexT S2) (lexA S2) (lexE S2) ⟨rfl, rfl, rfl⟩ (BytesAt.keep (BytesAt.eqL (BytesAt.take hv2 hle2) hS2) hB) (cell_keep hm hB)) (fun e w3 hR => ?_)
  obtain ⟨vt2, rfl, hbl3, hO2, ghO2⟩ := hR
  refine ⟨_, rfl, ?_⟩
  have ap_hO2_hO1 : Apart vt2 vt1 := fun g hg e => absurd (Own.lt hO1 e) (Nat.not_lt.2 (ghO2 g hg))
  replace ghO2 : ∀ g, Value.ownBlock vt2 = some g → w.heap.size ≤ g := fun g h => Nat.le_trans hB.size (ghO2 g h)
  replace hO1 := hO1.below hbl3
  replace hB := Below.andThen hB hbl3
  refine At.move rfl rfl ?_
  refine At.extract rfl rfl rfl ?_
  refine At.extract rfl rfl rfl ?_
  refine At.extract rfl rfl rfl ?_
  refine At.assign rfl rfl ?_
  refine At.assign rfl rfl ?_
  refine At.assign rfl rfl ?_
  refine At.ops0 ?_
  refine At.thenN ?_
  refine At.seq ?_
  have hJ := joins (a := S1) (b := S2) (by omega) (by omega)
  refine At.region ?_
  refine At.buildSlice (xs := []) rfl rfl el22 sz5 ze5 (by simp) rfl (by decide) rfl (fun b1 w4 F1 => ?_)
  have gb1 := F1.ge hB
  replace hO1 := hO1.fresh F1
  replace hO2 := hO2.fresh F1
  have hb1 : w4.heap[b1]? = some (.cells #[] 5) := F1.new
  replace hB := F1.below' hB
  have hO3 : OwnR 5 1 U8.cs w4 (.slice (some ⟨b1, 0, none⟩) 0 0) [] := OwnR.made hb1
  have ghO3 : ∀ g, Value.ownBlock (.slice (some ⟨b1, 0, none⟩) 0 0) = some g → w.heap.size ≤ g := fun g h => by cases h; exact gb1
  clear hb1
  refine At.move rfl rfl ?_
  refine At.appendR (f := U8.cs) rfl rfl el22 el22 sz5 by5 ze5 rfl hO3 (BytesAt.keep (BytesAt.eqL (BytesAt.take hv hle1) hS1) hB) (by decide) (fun u hu => (((fun u _ => u8_ok u)) u hu).one) (by first | (simp; omega) | omega) (by first | (simp; omega) | omega) rfl (fun va1 w5 hO4 hA1 => ?_)
  replace hO4 : OwnR 5 1 U8.cs w5 va1 S1 := hO4
  replace hO1 := OwnR.keepT hA1 hO3 hO1 rfl
  replace hO2 := OwnR.keepT hA1 hO3 hO2 rfl
  have ghO4 := hA1.ge hB.size ghO3
  replace hB := hA1.below hB hB.size ghO3
  refine At.buildSlice (xs := [.const (.int .u8 10)]) rfl rfl el22 sz5 ze5 (by intro v hv; simp only [List.mem_cons, List.not_mem_nil, or_false] at hv; rcases hv with rfl <;> first | rfl | simp [Value.cells, Value.cells]) rfl (by decide) rfl (fun b2 w6 F2 => ?_)
  have q_hO4_b2 : some b2 ≠ Value.ownBlock va1 := Own.neFresh hO4 F2
  have gb2 := F2.ge hB
  replace hO1 := hO1.fresh F2
  replace hO2 := hO2.fresh F2
  replace hO4 := hO4.fresh F2
  have hb2 : w6.heap[b2]? = some (.cells #[.int .u8 10] 5) := F2.new
  replace hB := F2.below' hB
  refine At.appendR (f := U8.cs) rfl rfl el22 el22 sz5 by5 ze5 rfl hO4 (rows_own (f := U8.cs) (ks := [(10 : UInt8)]) (m := 1) hb2 (fun u hu => ((mem1 (Q := fun u => U8Ok u) (u8_ok (10 : UInt8))) u hu).size) rfl (by decide)) (by decide) (fun u hu => (((mem1 (Q := fun u => U8Ok u) (u8_ok (10 : UInt8)))) u hu).one) (by first | (simp; omega) | omega) (by first | (simp; omega) | omega) rfl (fun va2 w7 hO5 hA2 => ?_)
  replace hO5 : OwnR 5 1 U8.cs w7 va2 (S1 ++ [(10 : UInt8)]) := hO5
  clear hb2
  replace hO1 := OwnR.keepT hA2 hO4 hO1 rfl
  replace hO2 := OwnR.keepT hA2 hO4 hO2 rfl
  have ghO5 := hA2.ge hB.size ghO4
  replace hB := hA2.below hB hB.size ghO4
  refine At.move rfl rfl ?_
  refine At.appendR (f := U8.cs) rfl rfl el22 el22 sz5 by5 ze5 rfl hO5 (BytesAt.keep (BytesAt.eqL (BytesAt.take hv2 hle2) hS2) hB) (by decide) (fun u hu => (((fun u _ => u8_ok u)) u hu).one) (by first | (simp; omega) | omega) (by first | (simp; omega) | omega) rfl (fun va3 w8 hO6 hA3 => ?_)
  replace hO6 : OwnR 5 1 U8.cs w8 va3 ((S1 ++ [(10 : UInt8)]) ++ S2) := hO6
  replace hO1 := OwnR.keepT hA3 hO5 hO1 rfl
  replace hO2 := OwnR.keepT hA3 hO5 hO2 rfl
  have ghO6 := hA3.ge hB.size ghO5
  replace hB := hA3.below hB hB.size ghO5
  refine At.assign rfl rfl ?_
  refine At.ops0 ?_
  refine At.thenN ?_
  refine At.seq ?_
  refine At.region ?_
  refine At.move rfl rfl ?_
  refine At.call en11 rfl rfl (lex_to va3 ((S1 ++ [(10 : UInt8)]) ++ S2) m _ (lexT ((S1 ++ [(10 : UInt8)]) ++ S2)) (lexA ((S1 ++ [(10 : UInt8)]) ++ S2)) (lexE ((S1 ++ [(10 : UInt8)]) ++ S2)) ⟨rfl, rfl, rfl⟩ (BytesAt.keep (OwnR.rows hO6 (fun u hu => (((all_app (Q := fun u => U8Ok u) (all_app (Q := fun u => U8Ok u) (fun u _ => u8_ok u) (mem1 (Q := fun u => U8Ok u) (u8_ok (10 : UInt8)))) (fun u _ => u8_ok u))) u hu).size)) (Below.refl _ _)) (cell_keep hm hB)) (fun e w9 hR => ?_)
  obtain ⟨vt3, rfl, hbl4, hO7, ghO7⟩ := hR
  refine ⟨_, rfl, ?_⟩
  have ap_hO7_hO1 : Apart vt3 vt1 := fun g hg e => absurd (Own.lt hO1 e) (Nat.not_lt.2 (ghO7 g hg))
  have ap_hO7_hO2 : Apart vt3 vt2 := fun g hg e => absurd (Own.lt hO2 e) (Nat.not_lt.2 (ghO7 g hg))
  replace ghO7 : ∀ g, Value.ownBlock vt3 = some g → w.heap.size ≤ g := fun g h => Nat.le_trans hB.size (ghO7 g h)
  replace hO1 := hO1.below hbl4
  replace hO2 := hO2.below hbl4
  replace hO6 := hO6.below hbl4
  replace hB := Below.andThen hB hbl4
  refine At.move rfl rfl ?_
  refine At.extract rfl rfl rfl ?_
  refine At.extract rfl rfl rfl ?_
  refine At.extract rfl rfl rfl ?_
  refine At.assign rfl rfl ?_
  refine At.assign rfl rfl ?_
  refine At.assign rfl rfl ?_
  refine At.ops0 ?_
  refine At.thenN ?_
  refine At.seq ?_
  refine At.seq ?_
  refine At.region ?_
  refine At.move rfl rfl ?_
  refine At.neI rfl rfl rfl ?_
  refine At.ops0 ?_
  refine At.thenN ?_
  refine At.cond (b := (!decide ((lexE S1) = 0))) rfl (fun hc1 => ?_) (fun hc1 => ?_)
  · skip
    have hc1' := hc1; simp only [Bool.not_eq_true', Bool.not_eq_false', decide_eq_true_eq, decide_eq_false_iff_not] at hc1'
    refine At.seq ?_
    obtain ⟨q1, q2, q3⟩ := hJ.one (by simpa using hc1)
    refine At.region ?_
    refine At.move rfl rfl ?_
    refine At.move rfl rfl ?_
    refine At.yes rfl rfl rfl rfl ?_
    refine At.move rfl rfl ?_
    refine At.yes rfl rfl rfl rfl ?_
    refine At.eqI rfl rfl rfl ?_
    refine At.pickT rfl rfl rfl ?_
    refine At.move rfl rfl ?_
    have hbb1 : (decide ((lexE ((S1 ++ [(10 : UInt8)]) ++ S2)) = 2)) = true := decide_eq_true q1
    refine At.set (d := 60) (u := .bool true) rfl (congrArg Value.bool hbb1) ?_
    refine At.yes rfl rfl rfl rfl ?_
    refine At.move rfl rfl ?_
    refine At.yes rfl rfl rfl rfl ?_
    refine At.move rfl rfl ?_
    refine At.yes rfl rfl rfl rfl ?_
    refine At.eqI rfl rfl rfl ?_
    refine At.pickT rfl rfl rfl ?_
    refine At.move rfl rfl ?_
    have hbb2 : (decide (((lexA ((S1 ++ [(10 : UInt8)]) ++ S2)) : Int) = ((lexA S1) : Int))) = true := decide_eq_true (by omega)
    refine At.set (d := 65) (u := .bool true) rfl (congrArg Value.bool hbb2) ?_
    refine At.yes rfl rfl rfl rfl ?_
    refine At.move rfl rfl ?_
    refine At.yes rfl rfl rfl rfl ?_
    refine At.lenSl rfl (Own.slOk hO7) el24 rfl ?_
    refine At.yes rfl rfl rfl rfl ?_
    refine At.eqI rfl rfl rfl ?_
    refine At.pickT rfl rfl rfl ?_
    refine At.assign rfl rfl ?_
    refine At.ops0 ?_
    refine At.thenN ?_
    refine At.retc ?_
    refine At.thenR ?_
    refine At.doneR (ResV.tmp rfl ResV.nil) ?_
    exact ⟨congrArg Ending.returned (congrArg Value.bool (show (decide (((lexT ((S1 ++ [(10 : UInt8)]) ++ S2)).length : Int) = 0)) = true from decide_eq_true (by rw [q3]; rfl))), hB⟩
  · skip
    have hc1' := hc1; simp only [Bool.not_eq_true', Bool.not_eq_false', decide_eq_true_eq, decide_eq_false_iff_not] at hc1'
    refine At.skip ?_
    refine At.thenN ?_
    refine At.seq ?_
    refine At.seq ?_
    refine At.region ?_
    refine At.move rfl rfl ?_
    refine At.neI rfl rfl rfl ?_
    refine At.ops0 ?_
    refine At.thenN ?_
    refine At.cond (b := (!decide ((lexE S2) = 0))) rfl (fun hc2 => ?_) (fun hc2 => ?_)
    · skip
      have hc2' := hc2; simp only [Bool.not_eq_true', Bool.not_eq_false', decide_eq_true_eq, decide_eq_false_iff_not] at hc2'
      refine At.seq ?_
      have he2 : lexE S2 ≠ 0 := by simpa using hc2
      obtain ⟨q1, q2, q3⟩ := hJ.two (by simpa using hc1) he2
      obtain ⟨_, _, hq2, _⟩ := lex_wrong he2 (by omega)
      refine At.region ?_
      refine At.move rfl rfl ?_
      refine At.move rfl rfl ?_
      refine At.yes rfl rfl rfl rfl ?_
      refine At.move rfl rfl ?_
      refine At.yes rfl rfl rfl rfl ?_
      refine At.eqI rfl rfl rfl ?_
      refine At.pickT rfl rfl rfl ?_
      refine At.move rfl rfl ?_
      have hbb3 : (decide ((lexE ((S1 ++ [(10 : UInt8)]) ++ S2)) = 2)) = true := decide_eq_true q1
      refine At.set (d := 77) (u := .bool true) rfl (congrArg Value.bool hbb3) ?_
      refine At.yes rfl rfl rfl rfl ?_
      refine At.move rfl rfl ?_
      refine At.yes rfl rfl rfl rfl ?_
      refine At.move rfl rfl ?_
      refine At.yes rfl rfl rfl rfl ?_
      refine At.lenSl rfl (BytesAt.ok (BytesAt.eqL (BytesAt.take hv hle1) hS1)) el22 rfl ?_
      refine At.yes rfl rfl rfl rfl ?_
      refine At.addI rfl rfl rfl (by omega) ?_
      refine At.yes rfl rfl rfl rfl ?_
      refine At.move rfl rfl ?_
      refine At.yes rfl rfl rfl rfl ?_
      refine At.addI rfl rfl rfl (by omega) ?_
      refine At.yes rfl rfl rfl rfl ?_
      refine At.eqI rfl rfl rfl ?_
      refine At.pickT rfl rfl rfl ?_
      refine At.move rfl rfl ?_
      have hbb4 : (decide (((lexA ((S1 ++ [(10 : UInt8)]) ++ S2)) : Int) = (((S1.length : Int) + 1) + ((lexA S2) : Int)))) = true := decide_eq_true (by omega)
      refine At.set (d := 86) (u := .bool true) rfl (congrArg Value.bool hbb4) ?_
      refine At.yes rfl rfl rfl rfl ?_
      refine At.move rfl rfl ?_
      refine At.yes rfl rfl rfl rfl ?_
      refine At.lenSl rfl (Own.slOk hO7) el24 rfl ?_
      refine At.yes rfl rfl rfl rfl ?_
      refine At.eqI rfl rfl rfl ?_
      refine At.pickT rfl rfl rfl ?_
      refine At.assign rfl rfl ?_
      refine At.ops0 ?_
      refine At.thenN ?_
      refine At.retc ?_
      refine At.thenR ?_
      refine At.doneR (ResV.tmp rfl ResV.nil) ?_
      exact ⟨congrArg Ending.returned (congrArg Value.bool (show (decide (((lexT ((S1 ++ [(10 : UInt8)]) ++ S2)).length : Int) = 0)) = true from decide_eq_true (by rw [q3]; rfl))), hB⟩
    · skip
      have hc2' := hc2; simp only [Bool.not_eq_true', Bool.not_eq_false', decide_eq_true_eq, decide_eq_false_iff_not] at hc2'
      refine At.skip ?_
      refine At.thenN ?_
      refine At.seq ?_
      refine At.seq ?_
      have he1 : lexE S1 = 0 := by simpa using hc1
      have he2 : lexE S2 = 0 := by simpa using hc2
      obtain ⟨q1, q2⟩ := hJ.both he1 he2
      have hW1 := words_of he1; have hW2 := words_of he2; have hlen1 := hW1.len; have hlen2 := hW2.len; have hlen3 := (words_of q1).len; simp only [List.length_append, List.length_cons, List.length_nil] at hlen3
      refine At.region ?_
      refine At.assign rfl rfl ?_
      refine At.ops0 ?_
      refine At.thenN ?_
      refine At.block ?_
      refine At.loop (Nat) (fun k => [(0, (takeV v (min l.length 1000))), (5, .bool true), (6, vt1), (9, vt2), (13, vt3), (15, .int .i64 (lexE ((S1 ++ [(10 : UInt8)]) ++ S2))), (16, .int .i64 (k : Int))]) (fun k w10 => Below w.heap.size w w10 ∧ OwnR 31 4 Tk.cs w10 vt1 (lexT S1) ∧ OwnR 31 4 Tk.cs w10 vt2 (addTo (S1.length + 1) k (lexT S2)) ∧ OwnR 31 4 Tk.cs w10 vt3 (lexT ((S1 ++ [(10 : UInt8)]) ++ S2)) ∧ (k ≤ (lexT S2).length)) (fun k => (lexT S2).length - k) (0 : Nat) (Sub.cons rfl (Sub.cons rfl (Sub.cons rfl (Sub.cons rfl (Sub.cons rfl (Sub.cons rfl (Sub.cons rfl Sub.nil))))))) ⟨hB, hO1, (OwnR.eqL hO2 (addTo_zero _ _).symm), hO7, (Nat.zero_le _)⟩ (fun k w10 hI => ?_)
      clear hB hO1 hO2 hO6 hO7
      obtain ⟨hB, hO1, hrY, hO7, hkb⟩ := hI
      show At _ _ [(0, (takeV v (min l.length 1000))), (5, .bool true), (6, vt1), (9, vt2), (13, vt3), (15, .int .i64 (lexE ((S1 ++ [(10 : UInt8)]) ++ S2))), (16, .int .i64 (k : Int))] _ _
      have hal := addTo_len (S1.length + 1) k (lexT S2)
      refine At.seq ?_
      refine At.seq ?_
      refine At.region ?_
      refine At.move rfl rfl ?_
      refine At.move rfl rfl ?_
      refine At.lenSl rfl (Own.slOk hrY) el24 rfl ?_
      refine At.lss rfl rfl rfl ?_
      refine At.ops0 ?_
      refine At.thenN ?_
      refine At.cond (b := decide ((k : Int) < ((addTo (S1.length + 1) k (lexT S2)).length : Int))) rfl (fun hc3 => ?_) (fun hc3 => ?_)
      · skip
        have hc3' := of_decide_eq_true hc3
        refine At.skip ?_
        refine At.thenN ?_
        refine At.seq ?_
        refine At.block ?_
        obtain ⟨x, hx⟩ := some_of_lt (l := lexT S2) (i := k) (by omega)
        obtain ⟨q, hxa, hql, _⟩ := lexW_cut _ S2 (Nat.le_refl _) 0 _ hW2.lex k x hx
        refine At.region ?_
        refine At.move rfl rfl ?_
        refine At.move rfl rfl ?_
        refine At.move rfl rfl ?_
        refine At.move rfl rfl ?_
        refine At.indexAddr (i := k) rfl rfl (Own.slOk hrY) (lt_of_some (addTo_at (d := S1.length + 1) hx)) el24 sz31 rfl ?_
        refine At.fieldAddr rfl fo31_3 rfl ?_
        refine At.load rfl (Ld.cell ag3 (cell_keep ((((OwnR.rows hrY (fun u hu => (((fun u _ => tk_ok u)) u hu).size))).row (addTo_at (d := S1.length + 1) hx)).get ((((fun u _ => tk_ok u)) x (List.mem_of_getElem? (addTo_at (d := S1.length + 1) hx)))).c3) (Below.refl _ _))) rfl ?_
        refine At.move rfl rfl ?_
        refine At.lenSl rfl (BytesAt.ok (BytesAt.eqL (BytesAt.take hv hle1) hS1)) el22 rfl ?_
        refine At.addI rfl rfl rfl (by omega) ?_
        refine At.addI rfl rfl rfl (by omega) ?_
        refine At.indexAddr (i := k) rfl rfl (Own.slOk hrY) (lt_of_some (addTo_at (d := S1.length + 1) hx)) el24 sz31 rfl ?_
        refine At.fieldAddr rfl fo31_3 rfl ?_
        refine At.storeRow (f := Tk.cs) (i := k) (off := 3) (Tk.putI x ((x.a + (S1.length : Int)) + 1)) rfl rfl hrY (addTo_at (d := S1.length + 1) hx) (fun u hu => (((fun u _ => tk_ok u)) u hu).size) (by omega) sz3 (putI_splice x ((x.a + (S1.length : Int)) + 1)) (Nat.le_refl _) (cells_all rfl) (fun w11 hO8 hA4 => ?_)
        replace hO1 := AppR.apartR hA4 hO1 (Apart.symm ap_hO2_hO1)
        replace hO7 := AppR.apartR hA4 hO7 (ap_hO7_hO2)
        replace hB := hA4.below hB hB.size ghO2
        refine At.ops0 ?_
        refine At.inN ?_
        refine At.thenN ?_
        refine At.region ?_
        refine At.move rfl rfl ?_
        refine At.addI rfl rfl rfl (by omega) ?_
        refine At.assign rfl rfl ?_
        refine At.ops0 ?_
        refine At.thenN ?_
        exact fun act_ hact_ => ⟨(k + 1), hact_.sub (Sub.cons rfl (Sub.cons rfl (Sub.cons rfl (Sub.cons rfl (Sub.cons rfl (Sub.cons rfl (Sub.cons rfl Sub.nil))))))), ⟨hB, hO1, (OwnR.eqL hO8 (addTo_set hx (putI_add x S1.length))), hO7, (by omega)⟩, by first | omega | (dsimp only; omega)⟩
      · skip
        have hc3' := of_decide_eq_false hc3
        refine At.exit ?_
        refine At.thenE ?_
        refine At.thenE ?_
        refine At.inE ?_
        refine At.thenN ?_
        refine At.seq ?_
        refine At.region ?_
        refine At.move rfl rfl ?_
        refine At.move rfl rfl ?_
        refine At.yes rfl rfl rfl rfl ?_
        refine At.move rfl rfl ?_
        refine At.yes rfl rfl rfl rfl ?_
        refine At.eqI rfl rfl rfl ?_
        refine At.pickT rfl rfl rfl ?_
        refine At.move rfl rfl ?_
        have hbb5 : (decide ((lexE ((S1 ++ [(10 : UInt8)]) ++ S2)) = 0)) = true := decide_eq_true q1
        refine At.set (d := 115) (u := .bool true) rfl (congrArg Value.bool hbb5) ?_
        refine At.yes rfl rfl rfl rfl ?_
        refine At.move rfl rfl ?_
        refine At.yes rfl rfl rfl rfl ?_
        refine At.move rfl rfl ?_
        refine At.yes rfl rfl rfl rfl ?_
        refine At.move rfl rfl ?_
        refine At.yes rfl rfl rfl rfl ?_
        refine At.appendR (f := Tk.cs) rfl rfl el24 el24 sz31 by31 ze31 rfl hO1 (OwnR.rows hrY (fun u hu => (((fun u _ => tk_ok u)) u hu).size)) (by decide) (fun u hu => (((fun u _ => tk_ok u)) u hu).one) (by first | (simp; omega) | omega) (by first | (simp; omega) | omega) rfl (fun va4 w12 hO9 hA5 => ?_)
        replace hO9 : OwnR 31 4 Tk.cs w12 va4 ((lexT S1) ++ (addTo (S1.length + 1) k (lexT S2))) := hO9
        have ap_hO9_hrY := Apart.appR (Apart.symm ap_hO2_hO1) hA5 hrY
        replace hrY := AppR.apartR hA5 hrY (ap_hO2_hO1)
        have ap_hO9_hO7 := Apart.appR (Apart.symm ap_hO7_hO1) hA5 hO7
        replace hO7 := AppR.apartR hA5 hO7 (ap_hO7_hO1)
        have ghO9 := hA5.ge hB.size ghO1
        replace hB := hA5.below hB hB.size ghO1
        refine At.yes rfl rfl rfl rfl ?_
        refine At.call en13 rfl rfl (same_any vt3 va4 (lexT ((S1 ++ [(10 : UInt8)]) ++ S2)) ((lexT S1) ++ (addTo (S1.length + 1) k (lexT S2))) true _ (OwnR.rows hO7 (fun u hu => (((fun u _ => tk_ok u)) u hu).size)) (OwnR.rows hO9 (fun u hu => (((all_app (Q := fun u => TkOk u) (fun u _ => tk_ok u) (fun u _ => tk_ok u))) u hu).size)) (by omega)) (fun e w13 hR => ?_)
        obtain ⟨rfl, hbl5⟩ := hR
        refine ⟨_, rfl, ?_⟩
        replace hrY := hrY.below hbl5
        replace hO7 := hO7.below hbl5
        replace hO9 := hO9.below hbl5
        replace hB := Below.andThen hB hbl5
        refine At.pickT rfl rfl rfl ?_
        refine At.assign rfl rfl ?_
        refine At.ops0 ?_
        refine At.thenN ?_
        refine At.retc ?_
        refine At.doneR (ResV.tmp rfl ResV.nil) ?_
        exact ⟨congrArg Ending.returned (congrArg Value.bool (show ((sameB true (lexT ((S1 ++ [(10 : UInt8)]) ++ S2)) ((lexT S1) ++ (addTo (S1.length + 1) k (lexT S2))))) = true from sameB_true.2 (by rw [q2, addTo_full (by omega)]))), hB⟩
end Go.Proofs.Ytkalnkedpiemaaa
