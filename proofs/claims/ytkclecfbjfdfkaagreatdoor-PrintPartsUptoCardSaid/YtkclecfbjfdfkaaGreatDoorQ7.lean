/-
  The walk of the statement PrintParts. Written by a program of ours.
-/
import Derived.Test.YtkclecfbjfdfkaaGreatDoorQ6
import Derived.Test.YtkclecfbjfdfkaaGreatDoorP9
set_option linter.unusedVariables false
set_option linter.unusedSimpArgs false
namespace Go.Proofs.YtkclecfbjfdfkaaGreatDoor
open Go.RowKit
theorem by33 : bytesB Tryz.prog 33 = some 312 := by kernel_rfl
theorem en14 : entB Tryz.prog 14 = true := by kernel_rfl
theorem en7 : entB Tryz.prog 7 = true := by kernel_rfl
theorem en8 : entB Tryz.prog 8 = true := by kernel_rfl
theorem within_any (s u : List UInt8) (w : World) (hin : ∃ x y, s = x ++ (u ++ y)) (hl : s.length ≤ 140737488355328) :
    Calls Tryz.prog 14 ([.string (bs s), .string (bs u)] : List Value).toArray w fun e w' => e = .returned (.bool true) ∧ Below w.heap.size w w' := by
  have hB := Below.refl w.heap.size w
  refine At.enter (N := 24) Tryz.func14 rfl rfl (by simp) [(0, .string (bs s)), (1, .string (bs u))] (by simp) ?_
  refine At.seq ?_
  obtain ⟨x, y, hin⟩ := hin
  have hln := congrArg List.length hin; simp only [List.length_append] at hln
  refine At.region ?_
  refine At.assign rfl rfl ?_
  refine At.ops0 ?_
  refine At.thenN ?_
  refine At.seq ?_
  refine At.seq ?_
  refine At.region ?_
  refine At.assign rfl rfl ?_
  refine At.ops0 ?_
  refine At.thenN ?_
  refine At.block ?_
  refine At.loop (Nat) (fun k => [(0, .string (bs s)), (1, .string (bs u)), (5, .int .i64 (k : Int))]) (fun k w1 => w = w1 ∧ (k ≤ x.length)) (fun k => s.length + 1 - k) (0 : Nat) (Sub.cons rfl (Sub.cons rfl (Sub.cons rfl Sub.nil))) ⟨rfl, (Nat.zero_le _)⟩ (fun k w1 hI => ?_)
  obtain ⟨rfl, hkb⟩ := hI
  show At _ _ [(0, .string (bs s)), (1, .string (bs u)), (5, .int .i64 (k : Int))] _ _
  refine At.seq ?_
  refine At.seq ?_
  refine At.region ?_
  refine At.move rfl rfl ?_
  refine At.move rfl rfl ?_
  refine At.lenB (l := u) rfl st9 rfl ?_
  refine At.addI rfl rfl rfl (by omega) ?_
  refine At.move rfl rfl ?_
  refine At.lenB (l := s) rfl st9 rfl ?_
  refine At.leq rfl rfl rfl ?_
  refine At.ops0 ?_
  refine At.thenN ?_
  have hb : (decide (((k : Int) + (u.length : Int)) ≤ (s.length : Int))) = true := decide_eq_true (by omega)
  refine At.set (d := 12) (u := .bool true) rfl (congrArg Value.bool hb) ?_
  refine At.condT rfl ?_
  refine At.skip ?_
  refine At.thenN ?_
  refine At.seq ?_
  refine At.block ?_
  refine At.seq ?_
  refine At.region ?_
  refine At.move rfl rfl ?_
  refine At.move rfl rfl ?_
  refine At.move rfl rfl ?_
  refine At.move rfl rfl ?_
  refine At.lenB (l := u) rfl st9 rfl ?_
  refine At.addI rfl rfl rfl (by omega) ?_
  refine At.partB (l := s) (lo := k) (hi := (k + u.length)) rfl rfl rfl st9 (by omega) (by omega) rfl ?_
  refine At.move rfl rfl ?_
  refine At.eqB' (a := ((s.drop k).take ((k + u.length) - k))) (b := u) rfl rfl rfl ?_
  refine At.ops0 ?_
  refine At.thenN ?_
  refine At.cond (b := decide (((s.drop k).take ((k + u.length) - k)) = u)) rfl (fun hc1 => ?_) (fun hc1 => ?_)
  · skip
    have hc1' := of_decide_eq_true hc1
    refine At.seq ?_
    refine At.region ?_
    refine At.assign rfl rfl ?_
    refine At.ops0 ?_
    refine At.thenN ?_
    refine At.retc ?_
    refine At.inR ?_
    refine At.thenR ?_
    refine At.thenR ?_
    refine At.inR ?_
    refine At.thenR ?_
    refine At.doneR (ResV.tmp rfl ResV.nil) ?_
    exact ⟨rfl, hB⟩
  · skip
    have hc1' := of_decide_eq_false hc1
    refine At.skip ?_
    refine At.inN ?_
    refine At.thenN ?_
    refine At.region ?_
    refine At.move rfl rfl ?_
    refine At.addI rfl rfl rfl (by omega) ?_
    refine At.assign rfl rfl ?_
    refine At.ops0 ?_
    refine At.thenN ?_
    have hne : k ≠ x.length := fun e => by
      have hq := hc1
      rw [e, hin, List.drop_left, Nat.add_sub_cancel_left, List.take_left] at hq
      simp at hq
    exact fun act_ hact_ => ⟨(k + 1), hact_.sub (Sub.cons rfl (Sub.cons rfl (Sub.cons rfl Sub.nil))), ⟨rfl, (by omega)⟩, by first | omega | (dsimp only; omega)⟩
theorem printParts_any (p : Pr) (m : Int) (w : World) (hp : PrOk w p) (hz : szT p.body) (hwt : wtT p.body ≤ 4194304) (hm : w.cell? ⟨0, 0, none⟩ = some (.int .i64 m)) (htab : Tab w) :
    Calls Tryz.prog 5 ([.agg p.cs] : List Value).toArray w fun e w' => e = .returned (.bool true) ∧ Below w.heap.size w w' := by
  have hB := Below.refl w.heap.size w
  refine At.enter (N := 80) Tryz.func5 rfl rfl (by simp) [(0, .agg p.cs)] (by simp) ?_
  refine At.seq ?_
  refine At.region ?_
  refine At.box rfl rfl (fun b1 w1 F1 => ?_)
  have gb1 := F1.ge hB
  have hb1 : w1.heap[b1]? = some (.cells p.cs 35) := F1.new
  replace hB := F1.below' hB
  refine At.assign rfl rfl ?_
  refine At.ops0 ?_
  refine At.thenN ?_
  refine At.seq ?_
  refine At.region ?_
  refine At.call en7 rfl rfl (shown_any m _ (cell_keep hm hB) (tab_keep htab hB)) (fun e w2 hR => ?_)
  obtain ⟨rfl, hbl1⟩ := hR
  refine ⟨_, rfl, ?_⟩
  replace hb1 := Below.old hbl1 hb1
  replace hB := Below.andThen hB hbl1
  refine At.assign rfl rfl ?_
  refine At.ops0 ?_
  refine At.thenN ?_
  refine At.seq ?_
  refine At.seq ?_
  refine At.region ?_
  refine At.load rfl (Ld.own ag35 (sz35.trans (congrArg some (hp).size.symm)) hb1) rfl ?_
  refine At.call en8 rfl rfl (largeP_any p _ ((hp).keep hB)) (fun e w3 hR => ?_)
  obtain ⟨lg1, rfl, hbl2⟩ := hR
  refine ⟨_, rfl, ?_⟩
  replace hb1 := Below.old hbl2 hb1
  replace hB := Below.andThen hB hbl2
  refine At.ops0 ?_
  refine At.thenN ?_
  refine At.cond (b := lg1) rfl (fun hc1 => ?_) (fun hc1 => ?_)
  · skip
    refine At.seq ?_
    refine At.region ?_
    refine At.move rfl rfl ?_
    refine At.assign rfl rfl ?_
    refine At.ops0 ?_
    refine At.thenN ?_
    refine At.retc ?_
    refine At.thenR ?_
    refine At.doneR (ResV.tmp rfl ResV.nil) ?_
    exact ⟨rfl, hB⟩
  · skip
    refine At.skip ?_
    refine At.thenN ?_
    refine At.seq ?_
    refine At.region ?_
    refine At.fieldAddr rfl fo35_2 rfl ?_
    refine At.load rfl (Ld.ownPart ag33 (sz33.trans (congrArg some ((hp).bodyOk).size.symm)) hb1 (hp).bodyCs) rfl ?_
    refine At.alloc ze33 rfl (fun b2 w4 F2 => ?_)
    have n_b1_b2 : b1 ≠ b2 := Nat.ne_of_lt (F2.lt hb1)
    have gb2 := F2.ge hB
    replace hb1 := F2.old hb1
    have hb2 : w4.heap[b2]? = some (.cells #[.int .i64 0, .int .i64 0, .string (⟨#[]⟩ : ByteArray), .string (⟨#[]⟩ : ByteArray), .int .i64 0, (.slice none 0 0), (.slice none 0 0), .int .i64 0, .string (⟨#[]⟩ : ByteArray), .int .i64 0, (.slice none 0 0), (.slice none 0 0), .int .i64 0, (.slice none 0 0), .int .i64 0, .int .i64 0, .string (⟨#[]⟩ : ByteArray), .int .i64 0, (.slice none 0 0), (.slice none 0 0), .int .i64 0] 33) := F2.new
    replace hB := F2.below' hB
    refine At.storeAll rfl rfl hb2 (sz33.trans (congrArg some ((hp).bodyOk).size.symm)) ((hp).bodyOk).size.symm ((hp).bodyOk).one (fun w5 S1 => ?_)
    replace hb1 := S1.other hb1 n_b1_b2
    replace hb2 : w5.heap[b2]? = some (.cells p.body.cs 33) := S1.new
    replace hB := S1.below' hB gb2
    refine At.ops0 ?_
    refine At.thenN ?_
    refine At.seq ?_
    refine At.region ?_
    refine At.load rfl (Ld.own ag33 (sz33.trans (congrArg some ((hp).bodyOk).size.symm)) hb2) rfl ?_
    refine At.call en13 rfl rfl (term_any p.body m _ (((hp).bodyOk).keep hB) (hz) (cell_keep hm hB) (tab_keep htab hB) (fun h => few_t hz h hwt)) (fun e w6 hR => ?_)
    obtain ⟨rfl, hbl3⟩ := hR
    refine ⟨_, rfl, ?_⟩
    replace hb1 := Below.old hbl3 hb1
    replace hb2 := Below.old hbl3 hb2
    replace hB := Below.andThen hB hbl3
    refine At.move rfl rfl ?_
    refine At.extract rfl rfl rfl ?_
    refine At.extract rfl rfl rfl ?_
    refine At.assign rfl rfl ?_
    refine At.assign rfl rfl ?_
    refine At.ops0 ?_
    refine At.thenN ?_
    refine At.seq ?_
    refine At.seq ?_
    refine At.region ?_
    refine At.move rfl rfl ?_
    refine At.neI rfl rfl rfl ?_
    refine At.ops0 ?_
    refine At.thenN ?_
    refine At.cond (b := (!decide ((if writtenB p.body then (0 : Int) else 1) = 0))) rfl (fun hc2 => ?_) (fun hc2 => ?_)
    · skip
      have hc2' := hc2; simp only [Bool.not_eq_true', Bool.not_eq_false', decide_eq_true_eq, decide_eq_false_iff_not] at hc2'
      refine At.seq ?_
      refine At.region ?_
      refine At.move rfl rfl ?_
      refine At.assign rfl rfl ?_
      refine At.ops0 ?_
      refine At.thenN ?_
      refine At.retc ?_
      refine At.thenR ?_
      refine At.doneR (ResV.tmp rfl ResV.nil) ?_
      exact ⟨rfl, hB⟩
    · skip
      have hc2' := hc2; simp only [Bool.not_eq_true', Bool.not_eq_false', decide_eq_true_eq, decide_eq_false_iff_not] at hc2'
      refine At.skip ?_
      refine At.thenN ?_
      refine At.seq ?_
      have hw : writtenB p.body = true := by
        cases hx : writtenB p.body with
        | true => rfl
        | false => rw [hx] at hc2; revert hc2; decide
      have hkl := wt_kids p.body; have hal := wt_arms p.body
      have hTl : (termL p.body).length ≤ 140737488355328 := by unfold termL; rw [if_pos hw]; exact few_len (few_t hz (written_right hw) hwt)
      refine At.region ?_
      refine At.assign rfl rfl ?_
      refine At.ops0 ?_
      refine At.thenN ?_
      refine At.seq ?_
      refine At.region ?_
      refine At.buildSlice (xs := []) rfl rfl el24 sz33 ze33 (by simp) rfl (by decide) rfl (fun b3 w7 F3 => ?_)
      have n_b1_b3 : b1 ≠ b3 := Nat.ne_of_lt (F3.lt hb1)
      have n_b2_b3 : b2 ≠ b3 := Nat.ne_of_lt (F3.lt hb2)
      have gb3 := F3.ge hB
      replace hb1 := F3.old hb1
      replace hb2 := F3.old hb2
      have hb3 : w7.heap[b3]? = some (.cells #[] 33) := F3.new
      replace hB := F3.below' hB
      have hO1 : OwnR 33 21 Tm.cs w7 (.slice (some ⟨b3, 0, none⟩) 0 0) [] := OwnR.made hb3
      have ghO1 : ∀ g, Value.ownBlock (.slice (some ⟨b3, 0, none⟩) 0 0) = some g → w.heap.size ≤ g := fun g h => by cases h; exact gb3
      have qhO1_b1 : some b1 ≠ Value.ownBlock (.slice (some ⟨b3, 0, none⟩) 0 0) := fun e => n_b1_b3 (Option.some.inj e)
      have qhO1_b2 : some b2 ≠ Value.ownBlock (.slice (some ⟨b3, 0, none⟩) 0 0) := fun e => n_b2_b3 (Option.some.inj e)
      clear hb3
      refine At.fieldAddr rfl fo33_5 rfl ?_
      refine At.load rfl (Ld.ownCell ag24 hb2 ((hp).bodyOk).c5) rfl ?_
      refine At.appendR (f := Tm.cs) rfl rfl el24 el24 sz33 by33 ze33 rfl hO1 ((((hp).bodyOk).kidsAt).keep hB) (by decide) (fun u hu => (((fun u hu => (((hp).bodyOk).kids u hu).keep hB)) u hu).one) (by first | omega | (simp; omega)) (by first | omega | (simp; omega)) rfl (fun va1 w8 hO2 hA1 => ?_)
      replace hO2 : OwnR 33 21 Tm.cs w8 va1 p.body.kids := hO2
      replace hb1 := hA1.old hb1 (hO1.neT hb1 rfl)
      have q_hO2_b2 : some b2 ≠ Value.ownBlock va1 := Moved.ne hA1.blk (Array.getElem?_eq_some_iff.1 hb2).1 qhO1_b2
      replace hb2 := hA1.old hb2 qhO1_b2
      have ghO2 := hA1.ge hB.size ghO1
      replace hB := hA1.below hB hB.size ghO1
      refine At.assign rfl rfl ?_
      refine At.ops0 ?_
      refine At.thenN ?_
      refine At.seq ?_
      refine At.seq ?_
      refine At.region ?_
      refine At.assign rfl rfl ?_
      refine At.ops0 ?_
      refine At.thenN ?_
      refine At.block ?_
      refine At.loop (Nat × Value × List Tm) (fun (k, vp, lp) => [(3, .bool true), (4, .pointer (some ⟨b2, 0, none⟩)), (5, .string (bs (termL p.body))), (7, .int .i64 0), (8, vp), (9, .int .i64 (k : Int))]) (fun (k, vp, lp) w9 => Below w.heap.size w w9 ∧ w9.heap[b2]? = some (.cells p.body.cs 33) ∧ OwnR 33 21 Tm.cs w9 vp lp ∧ (∀ g, vp.ownBlock = some g → w.heap.size ≤ g) ∧ (k ≤ p.body.arms.length) ∧ (lp = p.body.kids ++ (p.body.arms.take k).map Am.body) ∧ (some b2 ≠ Value.ownBlock vp)) (fun (k, vp, lp) => p.body.arms.length - k) (0, va1, p.body.kids) (Sub.cons rfl (Sub.cons rfl (Sub.cons rfl (Sub.cons rfl (Sub.cons rfl (Sub.cons rfl Sub.nil)))))) ⟨hB, hb2, hO2, (ghO2), (Nat.zero_le _), (by simp), (q_hO2_b2)⟩ (fun gh w9 hI => ?_)
      obtain ⟨k, vp, lp⟩ := gh
      clear hB hb1 hb2 hO2
      obtain ⟨hB, hb2, hrP, gP, hkb, hlp, nbv⟩ := hI
      show At _ _ [(3, .bool true), (4, .pointer (some ⟨b2, 0, none⟩)), (5, .string (bs (termL p.body))), (7, .int .i64 0), (8, vp), (9, .int .i64 (k : Int))] _ _
      have hlpl : lp.length = p.body.kids.length + k := by rw [hlp]; simp; omega
      refine At.seq ?_
      refine At.seq ?_
      refine At.region ?_
      refine At.move rfl rfl ?_
      refine At.fieldAddr rfl fo33_6 rfl ?_
      refine At.load rfl (Ld.ownCell ag25 hb2 ((hp).bodyOk).c6) rfl ?_
      refine At.lenSl rfl (((hp).bodyOk).armsAt).okL el25 rfl ?_
      refine At.lss rfl rfl rfl ?_
      refine At.ops0 ?_
      refine At.thenN ?_
      refine At.cond (b := decide ((k : Int) < (p.body.arms.length : Int))) rfl (fun hc3 => ?_) (fun hc3 => ?_)
      · skip
        have hc3' := of_decide_eq_true hc3
        refine At.skip ?_
        refine At.thenN ?_
        refine At.seq ?_
        refine At.block ?_
        obtain ⟨x, hx⟩ := some_of_lt (l := p.body.arms) (i := k) (by omega)
        refine At.region ?_
        refine At.move rfl rfl ?_
        refine At.fieldAddr rfl fo33_6 rfl ?_
        refine At.load rfl (Ld.ownCell ag25 hb2 ((hp).bodyOk).c6) rfl ?_
        refine At.move rfl rfl ?_
        refine At.indexAddr (i := k) rfl rfl (((hp).bodyOk).armsAt).okL (lt_of_some hx) el25 sz48 rfl ?_
        refine At.fieldAddr rfl fo48_2 rfl ?_
        refine At.load rfl (Ld.row ag33 (sz33.trans (congrArg some (((((hp).bodyOk).arm hx)).body).size.symm)) ((((((hp).bodyOk).armsAt).row hx).part 2 ((((hp).bodyOk).arm hx)).bodyCs).keep hB)) rfl ?_
        refine At.buildSlice (xs := [.tmp 44]) rfl rfl el24 sz33 ze33 (by intro v hv; simp only [List.mem_cons, List.not_mem_nil, or_false] at hv; rcases hv with rfl <;> first | rfl | simp [Value.cells, (((((hp).bodyOk).arm hx)).body).size]) rfl (by decide) rfl (fun b4 w10 F4 => ?_)
        have q_hrP_b4 : some b4 ≠ Value.ownBlock vp := Own.neFresh hrP F4
        have n_b2_b4 : b2 ≠ b4 := Nat.ne_of_lt (F4.lt hb2)
        have gb4 := F4.ge hB
        replace hb2 := F4.old hb2
        replace hrP := hrP.fresh F4
        have hb4 : w10.heap[b4]? = some (.cells (([x.body].map Tm.cs).flatMap (·.toList)).toArray 33) := F4.new
        replace hB := F4.below' hB
        refine At.appendR (f := Tm.cs) rfl rfl el24 el24 sz33 by33 ze33 rfl hrP (rows_tm (m := 1) hb4 (mem1 (Q := fun u => TmOk w10 u) ((((((hp).bodyOk).arm hx)).body).keep hB)) rfl (by decide)) (by decide) (fun u hu => (((mem1 (Q := fun u => TmOk w10 u) ((((((hp).bodyOk).arm hx)).body).keep hB))) u hu).one) (by first | omega | (simp; omega)) (by first | omega | (simp; omega)) rfl (fun va2 w11 hO3 hA2 => ?_)
        replace hO3 : OwnR 33 21 Tm.cs w11 va2 (lp ++ [x.body]) := hO3
        have q_hO3_b2 : some b2 ≠ Value.ownBlock va2 := Moved.ne hA2.blk (Array.getElem?_eq_some_iff.1 hb2).1 nbv
        replace hb2 := hA2.old hb2 nbv
        clear hb4
        have ghO3 := hA2.ge hB.size gP
        replace hB := hA2.below hB hB.size gP
        refine At.assign rfl rfl ?_
        refine At.ops0 ?_
        refine At.inN ?_
        refine At.thenN ?_
        refine At.region ?_
        refine At.move rfl rfl ?_
        refine At.addI rfl rfl rfl (by omega) ?_
        refine At.assign rfl rfl ?_
        refine At.ops0 ?_
        refine At.thenN ?_
        exact fun act_ hact_ => ⟨((k + 1), va2, (lp ++ [x.body])), hact_.sub (Sub.cons rfl (Sub.cons rfl (Sub.cons rfl (Sub.cons rfl (Sub.cons rfl (Sub.cons rfl Sub.nil)))))), ⟨hB, hb2, hO3, (ghO3), (by omega), (by rw [hlp]; exact parts_at hx), (q_hO3_b2)⟩, by first | omega | (dsimp only; omega)⟩
      · skip
        have hc3' := of_decide_eq_false hc3
        refine At.exit ?_
        refine At.thenE ?_
        refine At.thenE ?_
        refine At.inE ?_
        refine At.thenN ?_
        refine At.seq ?_
        refine At.seq ?_
        refine At.region ?_
        refine At.assign rfl rfl ?_
        refine At.ops0 ?_
        refine At.thenN ?_
        refine At.block ?_
        have hlp2 : lp = partsT p.body := by rw [hlp, List.take_of_length_le (by omega)]; rfl
        have hless := sum_less hw; rw [← hlp2] at hless
        refine At.loop (Nat) (fun j => [(3, .bool true), (5, .string (bs (termL p.body))), (7, .int .i64 (sumT (lp.take j) : Int)), (8, vp), (10, .int .i64 (j : Int))]) (fun j w12 => Below w.heap.size w w12 ∧ OwnR 33 21 Tm.cs w12 vp lp ∧ (j ≤ lp.length)) (fun j => lp.length - j) (0 : Nat) (Sub.cons rfl (Sub.cons rfl (Sub.cons rfl (Sub.cons rfl (Sub.cons rfl Sub.nil))))) ⟨hB, hrP, (Nat.zero_le _)⟩ (fun j w12 hI => ?_)
        clear hB hb2 hrP
        obtain ⟨hB, hrP, hjb⟩ := hI
        show At _ _ [(3, .bool true), (5, .string (bs (termL p.body))), (7, .int .i64 (sumT (lp.take j) : Int)), (8, vp), (10, .int .i64 (j : Int))] _ _
        have hsj := sumT_le lp j
        refine At.seq ?_
        refine At.seq ?_
        refine At.region ?_
        refine At.move rfl rfl ?_
        refine At.move rfl rfl ?_
        refine At.lenSl rfl (Own.slOk hrP) el24 rfl ?_
        refine At.lss rfl rfl rfl ?_
        refine At.ops0 ?_
        refine At.thenN ?_
        refine At.cond (b := decide ((j : Int) < (lp.length : Int))) rfl (fun hc4 => ?_) (fun hc4 => ?_)
        · skip
          have hc4' := of_decide_eq_true hc4
          refine At.skip ?_
          refine At.thenN ?_
          refine At.seq ?_
          refine At.block ?_
          refine At.seq ?_
          obtain ⟨u, hu⟩ := some_of_lt (l := lp) (i := j) (by omega)
          have hmem : u ∈ partsT p.body := hlp2 ▸ List.mem_of_getElem? hu
          have hwu := part_written hw hmem
          have hsn := sumT_next hu; have hsl := sumT_le lp (j + 1)
          refine At.region ?_
          refine At.move rfl rfl ?_
          refine At.move rfl rfl ?_
          refine At.indexAddr (i := j) rfl rfl (Own.slOk hrP) (lt_of_some hu) el24 sz33 rfl ?_
          refine At.load rfl (Ld.row ag33 (sz33.trans (congrArg some ((((hlp ▸ parts_take (TmOk.keep hp.bodyOk hB) k)) u (List.mem_of_getElem? hu))).size.symm)) ((((OwnR.rows hrP (fun u hu => (((hlp ▸ parts_take (TmOk.keep hp.bodyOk hB) k)) u hu).size))).row hu).keep (Below.refl _ _))) rfl ?_
          refine At.call en13 rfl rfl (term_any u m _ (((((hlp ▸ parts_take (TmOk.keep hp.bodyOk hB) k)) u (List.mem_of_getElem? hu))).keep (Below.refl _ _)) (parts_sz hz u hmem) (cell_keep hm hB) (tab_keep htab hB) (fun h => few_t (parts_sz hz u hmem) h (Nat.le_trans (parts_wt u hmem) hwt))) (fun e w13 hR => ?_)
          obtain ⟨rfl, hbl4⟩ := hR
          refine ⟨_, rfl, ?_⟩
          replace hrP := hrP.below hbl4
          replace hB := Below.andThen hB hbl4
          refine At.move rfl rfl ?_
          refine At.extract rfl rfl rfl ?_
          refine At.extract rfl rfl rfl ?_
          refine At.assign rfl rfl ?_
          refine At.assign rfl rfl ?_
          refine At.ops0 ?_
          refine At.thenN ?_
          refine At.seq ?_
          refine At.seq ?_
          refine At.region ?_
          refine At.move rfl rfl ?_
          refine At.neI rfl rfl rfl ?_
          refine At.move rfl rfl ?_
          have hbb1 : ((!decide ((if writtenB u then (0 : Int) else 1) = 0))) = false := by rw [hwu]; decide
          refine At.set (d := 63) (u := .bool false) rfl (congrArg Value.bool hbb1) ?_
          refine At.yes rfl rfl rfl rfl ?_
          refine At.move rfl rfl ?_
          refine At.yes rfl rfl rfl rfl ?_
          refine At.move rfl rfl ?_
          refine At.yes rfl rfl rfl rfl ?_
          refine At.call en14 rfl rfl (within_any (termL p.body) (termL u) _ (part_in hw hmem) hTl) (fun e w14 hR => ?_)
          obtain ⟨rfl, hbl5⟩ := hR
          refine ⟨_, rfl, ?_⟩
          replace hrP := hrP.below hbl5
          replace hB := Below.andThen hB hbl5
          refine At.yes rfl rfl rfl rfl ?_
          refine At.not rfl rfl ?_
          refine At.pickF rfl rfl rfl ?_
          refine At.ops0 ?_
          refine At.thenN ?_
          have hb : ((!true)) = false := rfl
          refine At.set (d := 68) (u := .bool false) rfl (congrArg Value.bool hb) ?_
          refine At.condF rfl ?_
          refine At.skip ?_
          refine At.thenN ?_
          refine At.region ?_
          refine At.move rfl rfl ?_
          refine At.move rfl rfl ?_
          refine At.lenB (l := (termL u)) rfl st9 rfl ?_
          refine At.addI rfl rfl rfl (by omega) ?_
          refine At.assign rfl rfl ?_
          refine At.ops0 ?_
          refine At.inN ?_
          refine At.thenN ?_
          refine At.region ?_
          refine At.move rfl rfl ?_
          refine At.addI rfl rfl rfl (by omega) ?_
          refine At.assign rfl rfl ?_
          refine At.ops0 ?_
          refine At.thenN ?_
          exact fun act_ hact_ => ⟨(j + 1), hact_.sub (Sub.cons rfl (Sub.cons rfl (Sub.cons (by rw [sumT_next hu]; rfl) (Sub.cons rfl (Sub.cons rfl Sub.nil))))), ⟨hB, hrP, (by omega)⟩, by first | omega | (dsimp only; omega)⟩
        · skip
          have hc4' := of_decide_eq_false hc4
          refine At.exit ?_
          refine At.thenE ?_
          refine At.thenE ?_
          refine At.inE ?_
          refine At.thenN ?_
          refine At.seq ?_
          refine At.region ?_
          refine At.move rfl rfl ?_
          refine At.move rfl rfl ?_
          refine At.yes rfl rfl rfl rfl ?_
          refine At.move rfl rfl ?_
          refine At.yes rfl rfl rfl rfl ?_
          refine At.lenB (l := (termL p.body)) rfl st9 rfl ?_
          refine At.yes rfl rfl rfl rfl ?_
          refine At.move rfl rfl ?_
          refine At.yes rfl rfl rfl rfl ?_
          refine At.gtr rfl rfl rfl ?_
          refine At.pickT rfl rfl rfl ?_
          refine At.assign rfl rfl ?_
          refine At.ops0 ?_
          refine At.thenN ?_
          refine At.retc ?_
          refine At.doneR (ResV.tmp rfl ResV.nil) ?_
          exact ⟨congrArg Ending.returned (congrArg Value.bool (show (decide ((sumT (lp.take j) : Int) < ((termL p.body).length : Int))) = true from decide_eq_true (by have := sumT_le lp j; omega))), hB⟩
end Go.Proofs.YtkclecfbjfdfkaaGreatDoor
