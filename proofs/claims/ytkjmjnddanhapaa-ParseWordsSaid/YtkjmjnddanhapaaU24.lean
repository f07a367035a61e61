/-
 The walk of ParseWords. Written by a program of ours.
-/
import Derived.Test.YtkjmjnddanhapaaU22
import Derived.Test.YtkjmjnddanhapaaU23
set_option linter.unusedVariables false
set_option linter.unusedSimpArgs false
namespace Go.Proofs.Ytkjmjnddanhapaa
open Go.RowKit
theorem en12 : entB Try.prog 12 = true := by kernel_rfl
theorem en20 : entB Try.prog 20 = true := by kernel_rfl
theorem en21 : entB Try.prog 21 = true := by kernel_rfl
theorem no_next {ts : List Tk} {k : Nat} {a : Int} {u : Tk} (hn : ∀ (i : Nat) (t : Tk), i < k → ts[i]? = some t → t.a ≠ a) (hu : ts[k]? = some u) (h : u.a ≠ a) : ∀ (i : Nat) (t : Tk), i < k + 1 → ts[i]? = some t → t.a ≠ a := fun i t hi ht => by
 by_cases hk : i = k
 ·subst hk; rw [hu] at ht; injection ht with ht; rw [← ht]; exact h
 ·exact hn i t (by omega) ht
theorem words_any (v : Value) (l : List UInt8) (m : Int) (w : World) (hv : BytesAt w v l) (hm : w.cell? ⟨0, 0, none⟩ = some (.int .i64 m)) :
  Calls Try.prog 11 ([v] : List Value).toArray w fun e w' => e = .returned (.bool true) ∧ Below w.heap.size w w' := by
 have hB := Below.refl w.heap.size w
 refine At.enter (N := 133) Try.func11 rfl rfl (by simp) [(0, v)] (by simp) ?_
 refine .seq (.region (.assign rfl rfl (.ops0 (.thenN (.seq (.region ?_))))))
 refine At.call en12 rfl rfl (shown_any m _ (cell_keep hm hB)) (fun e w1 hR => ?_)
 obtain ⟨rfl, hbl1⟩ := hR
 refine ⟨_, rfl, ?_⟩
 replace hB := Below.andThen hB hbl1
 refine .assign rfl rfl (.ops0 (.thenN (.seq (.region (.move rfl rfl (.move rfl rfl (.lenSl rfl (BytesAt.ok hv) el22 rfl (.minI rfl rfl rfl (.set (d := 21) (u := .int .i64 (((min l.length 2000) : Nat) : Int)) rfl (congrArg (Value.int .i64) (min_lit _ _)) ?_)))))))))
 have hle1 : (min l.length 2000) ≤ l.length := by first | omega | (simp; done) | (simp; omega)
 refine .sliceTo (h := (min l.length 2000)) rfl rfl (BytesAt.ok hv) el22 sz5 hle1 rfl ?_
 obtain ⟨S1, hS1, bS1⟩ : ∃ x : List UInt8, (l.take (min l.length 2000)) = x ∧ x.length ≤ 2000 := ⟨_, rfl, by simp only [List.length_take]; omega⟩
 refine .assign rfl rfl (.ops0 (.thenN (.seq (.region (.move rfl rfl ?_)))))
 refine At.call en15 rfl rfl (lex_any (takeV v (min l.length 2000)) S1 m _ (BytesAt.keep (BytesAt.eqL (BytesAt.take hv hle1) hS1) hB) (cell_keep hm hB)) (fun e w2 hR => ?_)
 obtain ⟨vt1, rfl, hbl2, hO1, ghO1⟩ := hR
 refine ⟨_, rfl, ?_⟩
 replace ghO1 : ∀ g, Value.ownBlock vt1 = some g → w.heap.size ≤ g := fun g h => Nat.le_trans hB.size (ghO1 g h)
 replace hB := Below.andThen hB hbl2
 refine .move rfl rfl (.extract rfl rfl rfl (.extract rfl rfl rfl (.extract rfl rfl rfl (.assign rfl rfl (.assign rfl rfl (.assign rfl rfl (.ops0 (.thenN (.seq (.seq (.region (.move rfl rfl (.neI rfl rfl rfl (.ops0 (.thenN ?_)))))))))))))))
 refine At.cond (b := (!decide ((lexE S1) = 0))) rfl (fun hc1 => ?_) (fun hc1 => ?_)
 ·skip
  have hc1' := hc1; simp only [Bool.not_eq_true', Bool.not_eq_false', decide_eq_true_eq, decide_eq_false_iff_not] at hc1'
  refine .seq (.region (.move rfl rfl (.assign rfl rfl (.ops0 (.thenN (.retc (.thenR (.doneR (ResV.tmp rfl ResV.nil) ?_))))))))
  exact ⟨rfl, hB⟩
 ·skip
  have hc1' := hc1; simp only [Bool.not_eq_true', Bool.not_eq_false', decide_eq_true_eq, decide_eq_false_iff_not] at hc1'
  refine .skip (.thenN (.seq ?_))
  have hE : lexE S1 = 0 := by simpa using hc1
  have hW := words_of hE
  have hWl := hW.len; have hWt := hW.text
  refine .region (.move rfl rfl ?_)
  have hml1 : MLt w2.heap.size [Value.ownBlock vt1] := (MLt.own hO1 (MLt.nil _))
  refine At.call en13 rfl rfl (parse_any (takeV v (min l.length 2000)) S1 m _ (BytesAt.keep (BytesAt.eqL (BytesAt.take hv hle1) hS1) hB) (cell_keep hm hB)) (fun e w3 hR => ?_)
  obtain ⟨pr1, rfl, hbl3, hpk1, hsh1, hpl1, hpb1⟩ := hR
  refine ⟨_, rfl, ?_⟩
  replace hO1 := hO1.below hbl3
  replace hB := Below.andThen hB hbl3
  have hXp1 := Xs.of_new (B := 0) (M := [Value.ownBlock vt1]) (K := kPr) hpk1 (fun b hb => .inr (hpb1 b hb)) (fun _ _ => Nat.zero_le _) hml1
  clear hpk1 hpb1 hml1
  refine .move rfl rfl (.extract rfl rfl rfl (.extract rfl rfl rfl (.extract rfl rfl rfl ?_)))
  refine At.alloc ze37 rfl (fun b1 w4 F1 => ?_)
  have gb1 := F1.ge hB
  replace hO1 := hO1.fresh F1
  replace hXp1 := Xs.fresh hXp1 F1
  have hb1 : w4.heap[b1]? = some (.cells #[zN, zN, zI, zI, zS, zS, zI, zN, zN, zI, zS, zI, zN, zN, zI, zN, zI, zI, zS, zI, zN, zN, zI] 37) := F1.new
  replace hB := F1.below' hB
  refine At.storeAll rfl rfl hb1 (sz37.trans (congrArg some ((Xs.one hXp1)).size.symm)) ((Xs.one hXp1)).size.symm ((Xs.one hXp1)).one (fun w5 S2 => ?_)
  replace hO1 := hO1.set S2 (hO1.neT hb1 rfl)
  replace hXp1 := Xs.set hXp1 S2 (by simp)
  replace hb1 : w5.heap[b1]? = some (.cells pr1.cs 37) := S2.new
  replace hB := S2.below' hB gb1
  refine .assign rfl rfl (.assign rfl rfl (.ops0 (.thenN (.seq (.region (.move rfl rfl ?_))))))
  refine At.call en20 rfl rfl (text_any vt1 (lexT S1) _ (OwnR.rows hO1 (fun u hu => (((fun u _ => tk_ok u)) u hu).size)) (by omega) (fun t ht => by have := hW.tok t ht; omega) (by omega)) (fun e w6 hR => ?_)
  obtain ⟨rfl, hbl4⟩ := hR
  refine ⟨_, rfl, ?_⟩
  replace hb1 := Below.old hbl4 hb1
  replace hO1 := hO1.below hbl4
  replace hXp1 := Xs.below hXp1 hbl4
  replace hB := Below.andThen hB hbl4
  refine At.toBytes (l := (textL (lexT S1))) rfl st9 el22 ik5 (by omega) rfl (fun b2 cap1 w7 hgbb1 hbl5 hby1 => ?_)
  replace hb1 := Below.old hbl5 hb1
  replace hO1 := hO1.below hbl5
  replace hXp1 := Xs.below hXp1 hbl5
  replace hB := Below.andThen hB hbl5
  refine At.call en15 rfl rfl (lex_any (.slice (some ⟨b2, 0, none⟩) (textL (lexT S1)).length cap1) (textL (lexT S1)) m _ (BytesAt.keep hby1 (Below.refl _ _)) (cell_keep hm hB)) (fun e w8 hR => ?_)
  obtain ⟨vt2, rfl, hbl6, hO2, ghO2⟩ := hR
  refine ⟨_, rfl, ?_⟩
  replace ghO2 : ∀ g, Value.ownBlock vt2 = some g → w.heap.size ≤ g := fun g h => Nat.le_trans hB.size (ghO2 g h)
  replace hb1 := Below.old hbl6 hb1
  replace hO1 := hO1.below hbl6
  replace hby1 := hby1.below hbl6
  replace hXp1 := Xs.below hXp1 hbl6
  replace hB := Below.andThen hB hbl6
  refine .move rfl rfl (.extract rfl rfl rfl (.extract rfl rfl rfl (.extract rfl rfl rfl (.assign rfl rfl (.assign rfl rfl (.assign rfl rfl (.ops0 (.thenN (.seq (.region (.move rfl rfl ?_)))))))))))
  refine At.call en20 rfl rfl (text_any vt1 (lexT S1) _ (OwnR.rows hO1 (fun u hu => (((fun u _ => tk_ok u)) u hu).size)) (by omega) (fun t ht => by have := hW.tok t ht; omega) (by omega)) (fun e w9 hR => ?_)
  obtain ⟨rfl, hbl7⟩ := hR
  refine ⟨_, rfl, ?_⟩
  replace hb1 := Below.old hbl7 hb1
  replace hO1 := hO1.below hbl7
  replace hby1 := hby1.below hbl7
  replace hO2 := hO2.below hbl7
  replace hXp1 := Xs.below hXp1 hbl7
  replace hB := Below.andThen hB hbl7
  refine At.toBytes (l := (textL (lexT S1))) rfl st9 el22 ik5 (by omega) rfl (fun b3 cap2 w10 hgbb2 hbl8 hby2 => ?_)
  replace hb1 := Below.old hbl8 hb1
  replace hO1 := hO1.below hbl8
  replace hby1 := hby1.below hbl8
  replace hO2 := hO2.below hbl8
  replace hXp1 := Xs.below hXp1 hbl8
  replace hB := Below.andThen hB hbl8
  have hml2 : MLt w10.heap.size [some b1, Value.ownBlock vt1, Value.ownBlock vt2] := (MLt.blk hb1 (MLt.own hO1 (MLt.own hO2 (MLt.nil _))))
  refine At.call en13 rfl rfl (parse_any (.slice (some ⟨b3, 0, none⟩) (textL (lexT S1)).length cap2) (textL (lexT S1)) m _ (BytesAt.keep hby2 (Below.refl _ _)) (cell_keep hm hB)) (fun e w11 hR => ?_)
  obtain ⟨pr2, rfl, hbl9, hpk2, hsh2, hpl2, hpb2⟩ := hR
  refine ⟨_, rfl, ?_⟩
  replace hb1 := Below.old hbl9 hb1
  replace hO1 := hO1.below hbl9
  replace hby1 := hby1.below hbl9
  replace hO2 := hO2.below hbl9
  replace hby2 := hby2.below hbl9
  replace hXp1 := Xs.below hXp1 hbl9
  replace hB := Below.andThen hB hbl9
  have hXp2 := Xs.of_new (B := 0) (M := [some b1, Value.ownBlock vt1, Value.ownBlock vt2]) (K := kPr) hpk2 (fun b hb => .inr (hpb2 b hb)) (fun _ _ => Nat.zero_le _) hml2
  clear hpk2 hpb2 hml2
  refine .move rfl rfl (.extract rfl rfl rfl (.extract rfl rfl rfl (.extract rfl rfl rfl ?_)))
  refine At.alloc ze37 rfl (fun b4 w12 F2 => ?_)
  have n_b1_b4 : b1 ≠ b4 := Nat.ne_of_lt (F2.lt hb1)
  have gb4 := F2.ge hB
  replace hb1 := F2.old hb1
  replace hO1 := hO1.fresh F2
  replace hby1 := hby1.fresh F2
  replace hO2 := hO2.fresh F2
  replace hby2 := hby2.fresh F2
  replace hXp1 := Xs.fresh hXp1 F2
  replace hXp2 := Xs.fresh hXp2 F2
  have hb4 : w12.heap[b4]? = some (.cells #[zN, zN, zI, zI, zS, zS, zI, zN, zN, zI, zS, zI, zN, zN, zI, zN, zI, zI, zS, zI, zN, zN, zI] 37) := F2.new
  replace hB := F2.below' hB
  refine At.storeAll rfl rfl hb4 (sz37.trans (congrArg some ((Xs.one hXp2)).size.symm)) ((Xs.one hXp2)).size.symm ((Xs.one hXp2)).one (fun w13 S3 => ?_)
  replace hb1 := S3.other hb1 n_b1_b4
  replace hO1 := hO1.set S3 (hO1.neT hb4 rfl)
  clear hby1
  replace hO2 := hO2.set S3 (hO2.neT hb4 rfl)
  clear hby2
  replace hXp1 := Xs.set hXp1 S3 (by simp)
  replace hXp2 := Xs.set hXp2 S3 (by simp)
  replace hb4 : w13.heap[b4]? = some (.cells pr2.cs 37) := S3.new
  replace hB := S3.below' hB gb4
  refine .assign rfl rfl (.assign rfl rfl (.ops0 (.thenN (.seq (.seq ?_)))))
  have hF := words_facts (S := S1) bS1 hE (p := pr1) (q := pr2) hsh1 hsh2
  have hFl := hF.len
  have hPF := PrF.of hF.vpr hF.pk
  refine .region (.move rfl rfl (.move rfl rfl (.neI rfl rfl rfl (.move rfl rfl ?_))))
  have hbb1 : ((!decide ((parseR S1).2.2 = (parseR (textL (lexT S1))).2.2))) = false := by simp [hF.same]
  refine .set (d := 57) (u := .bool false) rfl (congrArg Value.bool hbb1) (.yes rfl rfl rfl rfl (.load rfl (Ld.own ag37 (sz37.trans (congrArg some ((Xs.one hXp1)).size.symm)) hb1) rfl (.yes rfl rfl rfl rfl (.load rfl (Ld.own ag37 (sz37.trans (congrArg some ((Xs.one hXp2)).size.symm)) hb4) rfl (.yes rfl rfl rfl rfl ?_)))))
  refine At.call en21 rfl rfl (samePr_any pr1 pr2 _ (Xs.one hXp1) (Xs.one hXp2) hPF) (fun e w14 hR => ?_)
  obtain ⟨rfl, hbl10⟩ := hR
  refine ⟨_, rfl, ?_⟩
  replace hb1 := Below.old hbl10 hb1
  replace hb4 := Below.old hbl10 hb4
  replace hO1 := hO1.below hbl10
  replace hO2 := hO2.below hbl10
  replace hXp1 := Xs.below hXp1 hbl10
  replace hXp2 := Xs.below hXp2 hbl10
  replace hB := Below.andThen hB hbl10
  refine .yes rfl rfl rfl rfl (.not rfl rfl (.pickF rfl rfl rfl (.move rfl rfl (.yes rfl rfl rfl rfl (.move rfl rfl (.yes rfl rfl rfl rfl (.lenSl rfl (Own.slOk hO2) el43 rfl (.yes rfl rfl rfl rfl (.move rfl rfl (.yes rfl rfl rfl rfl (.lenSl rfl (Own.slOk hO1) el43 rfl (.yes rfl rfl rfl rfl (.neI rfl rfl rfl (.pickF rfl rfl rfl (.ops0 (.thenN ?_))))))))))))))))
  have hb : ((!decide (((lexT (textL (lexT S1))).length : Int) = ((lexT S1).length : Int)))) = false := by simp [hF.len]
  refine .set (d := 69) (u := .bool false) rfl (congrArg Value.bool hb) (.condF rfl (.skip (.thenN (.seq (.seq (.region (.move rfl rfl (.neI rfl rfl rfl (.ops0 (.thenN ?_))))))))))
  refine At.cond (b := (!decide ((parseR S1).2.2 = 0))) rfl (fun hc2 => ?_) (fun hc2 => ?_)
  ·skip
   have hc2' := hc2; simp only [Bool.not_eq_true', Bool.not_eq_false', decide_eq_true_eq, decide_eq_false_iff_not] at hc2'
   refine .seq (.seq ?_)
   have hne : (parseR S1).2.2 ≠ 0 := by simpa using hc2
   refine .region (.move rfl rfl (.neI rfl rfl rfl (.move rfl rfl ?_)))
   refine At.cases ((!decide ((parseR S1).2.2 = 3))) (fun hg1 => ?_) (fun hg1 => ?_)
   ·skip
    refine .set (d := 74) (u := .bool true) rfl (congrArg Value.bool hg1) ?_
    have hg1' := hg1; simp only [Bool.not_eq_true', Bool.not_eq_false', decide_eq_true_eq, decide_eq_false_iff_not] at hg1'
    refine .yes rfl rfl rfl rfl (.move rfl rfl (.yes rfl rfl rfl rfl (.neI rfl rfl rfl (.pickT rfl rfl rfl (.ops0 (.thenN ?_))))))
    have hb : ((!decide ((parseR S1).2.2 = 6))) = false := by rcases hF.code hne with h | h <;> simp_all
    refine .set (d := 77) (u := .bool false) rfl (congrArg Value.bool hb) (.condF rfl (.skip (.thenN (.seq (.seq (.region (.move rfl rfl (.eqI rfl rfl rfl (.move rfl rfl ?_)))))))))
    refine At.cases (decide ((parseR S1).2.1 = 0)) (fun hg2 => ?_) (fun hg2 => ?_)
    ·skip
     refine .set (d := 80) (u := .bool true) rfl (congrArg Value.bool hg2) ?_
     have hg2' := of_decide_eq_true hg2
     refine .yes rfl rfl rfl rfl (.move rfl rfl (.yes rfl rfl rfl rfl (.eqI rfl rfl rfl (.pickT rfl rfl rfl (.ops0 (.thenN ?_))))))
     refine At.cond (b := decide ((parseR (textL (lexT S1))).2.1 = 0)) rfl (fun hc3 => ?_) (fun hc3 => ?_)
     ·skip
      have hc3' := of_decide_eq_true hc3
      refine .seq (.region (.move rfl rfl (.assign rfl rfl (.ops0 (.thenN (.retc (.thenR (.thenR (.doneR (ResV.tmp rfl ResV.nil) ?_)))))))))
      exact ⟨rfl, hB⟩
     ·skip
      have hc3' := of_decide_eq_false hc3
      refine .skip (.thenN (.seq (.seq ?_)))
      have h00 : ¬ ((parseR S1).2.1 = 0 ∧ (parseR (textL (lexT S1))).2.1 = 0) := by intro h; simp_all
      refine .region (.assign rfl rfl (.ops0 (.thenN (.block ?_))))
      refine At.loop (Nat) (fun k => [(0, (takeV v (min l.length 2000))), (3, .bool true), (4, vt1), (8, .int .i64 ((parseR S1).2.1)), (10, vt2), (14, .int .i64 ((parseR (textL (lexT S1))).2.1)), (16, .int .i64 (k : Int))]) (fun k w15 => Below w.heap.size w w15 ∧ OwnR 47 4 Tk.cs w15 vt1 (lexT S1) ∧ OwnR 47 4 Tk.cs w15 vt2 (lexT (textL (lexT S1))) ∧ (k ≤ (lexT S1).length) ∧ (∀ (i : Nat) (t : Tk), i < k → (lexT S1)[i]? = some t → t.a ≠ (parseR S1).2.1)) (fun k => (lexT S1).length - k) (0 : Nat) (Sub.cons rfl (Sub.cons rfl (Sub.cons rfl (Sub.cons rfl (Sub.cons rfl (Sub.cons rfl (Sub.cons rfl Sub.nil))))))) ⟨hB, hO1, hO2, (Nat.zero_le _), (fun i t hi _ => absurd hi (Nat.not_lt_zero _))⟩ (fun k w15 hI => ?_)
      clear hB hb1 hb4 hO1 hO2 hXp1 hXp2
      obtain ⟨hB, hO1, hO2, hkb, hn⟩ := hI
      show At _ _ [(0, (takeV v (min l.length 2000))), (3, .bool true), (4, vt1), (8, .int .i64 ((parseR S1).2.1)), (10, vt2), (14, .int .i64 ((parseR (textL (lexT S1))).2.1)), (16, .int .i64 (k : Int))] _ _
      refine .seq (.seq (.region (.move rfl rfl (.move rfl rfl (.lenSl rfl (Own.slOk hO1) el43 rfl (.lss rfl rfl rfl (.ops0 (.thenN ?_))))))))
      refine At.cond (b := decide ((k : Int) < ((lexT S1).length : Int))) rfl (fun hc4 => ?_) (fun hc4 => ?_)
      ·skip
       have hc4' := of_decide_eq_true hc4
       refine .skip (.thenN (.seq (.block (.seq ?_))))
       obtain ⟨u, hu⟩ := some_of_lt (l := lexT S1) (i := k) (by omega)
       obtain ⟨x, hx⟩ := some_of_lt (l := lexT (textL (lexT S1))) (i := k) (by omega)
       refine .region (.move rfl rfl (.move rfl rfl (.indexAddr (i := k) rfl rfl (Own.slOk hO1) (lt_of_some hu) el43 sz47 rfl (.fieldAddr rfl fo47_3 rfl (.load rfl (Ld.cell ag3 (cell_keep ((((OwnR.rows hO1 (fun u hu => (((fun u _ => tk_ok u)) u hu).size))).row hu).get ((((fun u _ => tk_ok u)) u (List.mem_of_getElem? hu))).c3) (Below.refl _ _))) rfl (.move rfl rfl (.eqI rfl rfl rfl (.ops0 (.thenN ?_)))))))))
       refine At.cond (b := decide (u.a = (parseR S1).2.1)) rfl (fun hc5 => ?_) (fun hc5 => ?_)
       ·skip
        have hc5' := of_decide_eq_true hc5
        refine .seq (.region (.move rfl rfl (.move rfl rfl (.yes rfl rfl rfl rfl (.move rfl rfl (.yes rfl rfl rfl rfl (.move rfl rfl (.yes rfl rfl rfl rfl (.indexAddr (i := k) rfl rfl (Own.slOk hO2) (lt_of_some hx) el43 sz47 rfl (.yes rfl rfl rfl rfl (.fieldAddr rfl fo47_3 rfl (.yes rfl rfl rfl rfl (.load rfl (Ld.cell ag3 (cell_keep ((((OwnR.rows hO2 (fun u hu => (((fun u _ => tk_ok u)) u hu).size))).row hx).get ((((fun u _ => tk_ok u)) x (List.mem_of_getElem? hx))).c3) (Below.refl _ _))) rfl (.yes rfl rfl rfl rfl (.move rfl rfl (.yes rfl rfl rfl rfl (.eqI rfl rfl rfl (.pickT rfl rfl rfl (.assign rfl rfl (.ops0 (.thenN (.retc (.inR (.thenR (.thenR (.inR (.thenR (.thenR (.doneR (ResV.tmp rfl ResV.nil) ?_)))))))))))))))))))))))))))))
        exact ⟨congrArg (fun b => Ending.returned (.bool b)) (by exact decide_eq_true (hF.hit hne h00 k u x hu hx (of_decide_eq_true hc5))), hB⟩
       ·skip
        have hc5' := of_decide_eq_false hc5
        refine .skip (.inN (.thenN (.region (.move rfl rfl (.addI rfl rfl rfl (by first | omega | (simp; done) | (simp; omega)) (.assign rfl rfl (.ops0 (.thenN ?_))))))))
        exact fun act_ hact_ => ⟨(k + 1), hact_.sub (Sub.cons rfl (Sub.cons rfl (Sub.cons rfl (Sub.cons rfl (Sub.cons rfl (Sub.cons rfl (Sub.cons rfl Sub.nil))))))), ⟨hB, hO1, hO2, (by omega), (no_next hn hu (of_decide_eq_false hc5))⟩, by first | omega | (dsimp only; omega)⟩
      ·skip
       have hc4' := of_decide_eq_false hc4
       refine .exit (.thenE (.thenE (.inE (.thenN (.seq (.region (.move rfl rfl (.move rfl rfl (.yes rfl rfl rfl rfl (.move rfl rfl (.yes rfl rfl rfl rfl (.move rfl rfl (.yes rfl rfl rfl rfl (.lenSl rfl (BytesAt.ok (BytesAt.eqL (BytesAt.take hv hle1) hS1)) el22 rfl (.yes rfl rfl rfl rfl (.eqI rfl rfl rfl (.pickT rfl rfl rfl (.assign rfl rfl (.ops0 (.thenN (.retc (.thenR (.doneR (ResV.tmp rfl ResV.nil) ?_)))))))))))))))))))))))
       exact ⟨congrArg (fun b => Ending.returned (.bool b)) (by exact decide_eq_true (hF.miss hne h00 fun i t ht => hn i t (by have := lt_of_some ht; omega) ht)), hB⟩
    ·skip
     refine .set (d := 80) (u := .bool false) rfl (congrArg Value.bool hg2) ?_
     have hg2' := of_decide_eq_false hg2
     refine .no rfl rfl rfl rfl rfl rfl rfl (.no rfl rfl rfl rfl rfl rfl rfl (.pickF rfl rfl rfl (.ops0 (.thenN (.condF rfl (.skip (.thenN (.seq (.seq ?_)))))))))
     have h00 : ¬ ((parseR S1).2.1 = 0 ∧ (parseR (textL (lexT S1))).2.1 = 0) := by intro h; simp_all
     refine .region (.assign rfl rfl (.ops0 (.thenN (.block ?_))))
     refine At.loop (Nat) (fun k => [(0, (takeV v (min l.length 2000))), (3, .bool true), (4, vt1), (8, .int .i64 ((parseR S1).2.1)), (10, vt2), (14, .int .i64 ((parseR (textL (lexT S1))).2.1)), (16, .int .i64 (k : Int))]) (fun k w16 => Below w.heap.size w w16 ∧ OwnR 47 4 Tk.cs w16 vt1 (lexT S1) ∧ OwnR 47 4 Tk.cs w16 vt2 (lexT (textL (lexT S1))) ∧ (k ≤ (lexT S1).length) ∧ (∀ (i : Nat) (t : Tk), i < k → (lexT S1)[i]? = some t → t.a ≠ (parseR S1).2.1)) (fun k => (lexT S1).length - k) (0 : Nat) (Sub.cons rfl (Sub.cons rfl (Sub.cons rfl (Sub.cons rfl (Sub.cons rfl (Sub.cons rfl (Sub.cons rfl Sub.nil))))))) ⟨hB, hO1, hO2, (Nat.zero_le _), (fun i t hi _ => absurd hi (Nat.not_lt_zero _))⟩ (fun k w16 hI => ?_)
     clear hB hb1 hb4 hO1 hO2 hXp1 hXp2
     obtain ⟨hB, hO1, hO2, hkb, hn⟩ := hI
     show At _ _ [(0, (takeV v (min l.length 2000))), (3, .bool true), (4, vt1), (8, .int .i64 ((parseR S1).2.1)), (10, vt2), (14, .int .i64 ((parseR (textL (lexT S1))).2.1)), (16, .int .i64 (k : Int))] _ _
     refine .seq (.seq (.region (.move rfl rfl (.move rfl rfl (.lenSl rfl (Own.slOk hO1) el43 rfl (.lss rfl rfl rfl (.ops0 (.thenN ?_))))))))
     refine At.cond (b := decide ((k : Int) < ((lexT S1).length : Int))) rfl (fun hc6 => ?_) (fun hc6 => ?_)
     ·skip
      have hc6' := of_decide_eq_true hc6
      refine .skip (.thenN (.seq (.block (.seq ?_))))
      obtain ⟨u, hu⟩ := some_of_lt (l := lexT S1) (i := k) (by omega)
      obtain ⟨x, hx⟩ := some_of_lt (l := lexT (textL (lexT S1))) (i := k) (by omega)
      refine .region (.move rfl rfl (.move rfl rfl (.indexAddr (i := k) rfl rfl (Own.slOk hO1) (lt_of_some hu) el43 sz47 rfl (.fieldAddr rfl fo47_3 rfl (.load rfl (Ld.cell ag3 (cell_keep ((((OwnR.rows hO1 (fun u hu => (((fun u _ => tk_ok u)) u hu).size))).row hu).get ((((fun u _ => tk_ok u)) u (List.mem_of_getElem? hu))).c3) (Below.refl _ _))) rfl (.move rfl rfl (.eqI rfl rfl rfl (.ops0 (.thenN ?_)))))))))
      refine At.cond (b := decide (u.a = (parseR S1).2.1)) rfl (fun hc7 => ?_) (fun hc7 => ?_)
      ·skip
       have hc7' := of_decide_eq_true hc7
       refine .seq (.region (.move rfl rfl (.move rfl rfl (.yes rfl rfl rfl rfl (.move rfl rfl (.yes rfl rfl rfl rfl (.move rfl rfl (.yes rfl rfl rfl rfl (.indexAddr (i := k) rfl rfl (Own.slOk hO2) (lt_of_some hx) el43 sz47 rfl (.yes rfl rfl rfl rfl (.fieldAddr rfl fo47_3 rfl (.yes rfl rfl rfl rfl (.load rfl (Ld.cell ag3 (cell_keep ((((OwnR.rows hO2 (fun u hu => (((fun u _ => tk_ok u)) u hu).size))).row hx).get ((((fun u _ => tk_ok u)) x (List.mem_of_getElem? hx))).c3) (Below.refl _ _))) rfl (.yes rfl rfl rfl rfl (.move rfl rfl (.yes rfl rfl rfl rfl (.eqI rfl rfl rfl (.pickT rfl rfl rfl (.assign rfl rfl (.ops0 (.thenN (.retc (.inR (.thenR (.thenR (.inR (.thenR (.thenR (.doneR (ResV.tmp rfl ResV.nil) ?_)))))))))))))))))))))))))))))
       exact ⟨congrArg (fun b => Ending.returned (.bool b)) (by exact decide_eq_true (hF.hit hne h00 k u x hu hx (of_decide_eq_true hc7))), hB⟩
      ·skip
       have hc7' := of_decide_eq_false hc7
       refine .skip (.inN (.thenN (.region (.move rfl rfl (.addI rfl rfl rfl (by first | omega | (simp; done) | (simp; omega)) (.assign rfl rfl (.ops0 (.thenN ?_))))))))
       exact fun act_ hact_ => ⟨(k + 1), hact_.sub (Sub.cons rfl (Sub.cons rfl (Sub.cons rfl (Sub.cons rfl (Sub.cons rfl (Sub.cons rfl (Sub.cons rfl Sub.nil))))))), ⟨hB, hO1, hO2, (by omega), (no_next hn hu (of_decide_eq_false hc7))⟩, by first | omega | (dsimp only; omega)⟩
     ·skip
      have hc6' := of_decide_eq_false hc6
      refine .exit (.thenE (.thenE (.inE (.thenN (.seq (.region (.move rfl rfl (.move rfl rfl (.yes rfl rfl rfl rfl (.move rfl rfl (.yes rfl rfl rfl rfl (.move rfl rfl (.yes rfl rfl rfl rfl (.lenSl rfl (BytesAt.ok (BytesAt.eqL (BytesAt.take hv hle1) hS1)) el22 rfl (.yes rfl rfl rfl rfl (.eqI rfl rfl rfl (.pickT rfl rfl rfl (.assign rfl rfl (.ops0 (.thenN (.retc (.thenR (.doneR (ResV.tmp rfl ResV.nil) ?_)))))))))))))))))))))))
      exact ⟨congrArg (fun b => Ending.returned (.bool b)) (by exact decide_eq_true (hF.miss hne h00 fun i t ht => hn i t (by have := lt_of_some ht; omega) ht)), hB⟩
   ·skip
    refine .set (d := 74) (u := .bool false) rfl (congrArg Value.bool hg1) ?_
    have hg1' := hg1; simp only [Bool.not_eq_true', Bool.not_eq_false', decide_eq_true_eq, decide_eq_false_iff_not] at hg1'
    refine .no rfl rfl rfl rfl rfl rfl rfl (.no rfl rfl rfl rfl rfl rfl rfl (.pickF rfl rfl rfl (.ops0 (.thenN (.condF rfl (.skip (.thenN (.seq (.seq (.region (.move rfl rfl (.eqI rfl rfl rfl (.move rfl rfl ?_)))))))))))))
    refine At.cases (decide ((parseR S1).2.1 = 0)) (fun hg3 => ?_) (fun hg3 => ?_)
    ·skip
     refine .set (d := 80) (u := .bool true) rfl (congrArg Value.bool hg3) ?_
     have hg3' := of_decide_eq_true hg3
     refine .yes rfl rfl rfl rfl (.move rfl rfl (.yes rfl rfl rfl rfl (.eqI rfl rfl rfl (.pickT rfl rfl rfl (.ops0 (.thenN ?_))))))
     refine At.cond (b := decide ((parseR (textL (lexT S1))).2.1 = 0)) rfl (fun hc8 => ?_) (fun hc8 => ?_)
     ·skip
      have hc8' := of_decide_eq_true hc8
      refine .seq (.region (.move rfl rfl (.assign rfl rfl (.ops0 (.thenN (.retc (.thenR (.thenR (.doneR (ResV.tmp rfl ResV.nil) ?_)))))))))
      exact ⟨rfl, hB⟩
     ·skip
      have hc8' := of_decide_eq_false hc8
      refine .skip (.thenN (.seq (.seq ?_)))
      have h00 : ¬ ((parseR S1).2.1 = 0 ∧ (parseR (textL (lexT S1))).2.1 = 0) := by intro h; simp_all
      refine .region (.assign rfl rfl (.ops0 (.thenN (.block ?_))))
      refine At.loop (Nat) (fun k => [(0, (takeV v (min l.length 2000))), (3, .bool true), (4, vt1), (8, .int .i64 ((parseR S1).2.1)), (10, vt2), (14, .int .i64 ((parseR (textL (lexT S1))).2.1)), (16, .int .i64 (k : Int))]) (fun k w17 => Below w.heap.size w w17 ∧ OwnR 47 4 Tk.cs w17 vt1 (lexT S1) ∧ OwnR 47 4 Tk.cs w17 vt2 (lexT (textL (lexT S1))) ∧ (k ≤ (lexT S1).length) ∧ (∀ (i : Nat) (t : Tk), i < k → (lexT S1)[i]? = some t → t.a ≠ (parseR S1).2.1)) (fun k => (lexT S1).length - k) (0 : Nat) (Sub.cons rfl (Sub.cons rfl (Sub.cons rfl (Sub.cons rfl (Sub.cons rfl (Sub.cons rfl (Sub.cons rfl Sub.nil))))))) ⟨hB, hO1, hO2, (Nat.zero_le _), (fun i t hi _ => absurd hi (Nat.not_lt_zero _))⟩ (fun k w17 hI => ?_)
      clear hB hb1 hb4 hO1 hO2 hXp1 hXp2
      obtain ⟨hB, hO1, hO2, hkb, hn⟩ := hI
      show At _ _ [(0, (takeV v (min l.length 2000))), (3, .bool true), (4, vt1), (8, .int .i64 ((parseR S1).2.1)), (10, vt2), (14, .int .i64 ((parseR (textL (lexT S1))).2.1)), (16, .int .i64 (k : Int))] _ _
      refine .seq (.seq (.region (.move rfl rfl (.move rfl rfl (.lenSl rfl (Own.slOk hO1) el43 rfl (.lss rfl rfl rfl (.ops0 (.thenN ?_))))))))
      refine At.cond (b := decide ((k : Int) < ((lexT S1).length : Int))) rfl (fun hc9 => ?_) (fun hc9 => ?_)
      ·skip
       have hc9' := of_decide_eq_true hc9
       refine .skip (.thenN (.seq (.block (.seq ?_))))
       obtain ⟨u, hu⟩ := some_of_lt (l := lexT S1) (i := k) (by omega)
       obtain ⟨x, hx⟩ := some_of_lt (l := lexT (textL (lexT S1))) (i := k) (by omega)
       refine .region (.move rfl rfl (.move rfl rfl (.indexAddr (i := k) rfl rfl (Own.slOk hO1) (lt_of_some hu) el43 sz47 rfl (.fieldAddr rfl fo47_3 rfl (.load rfl (Ld.cell ag3 (cell_keep ((((OwnR.rows hO1 (fun u hu => (((fun u _ => tk_ok u)) u hu).size))).row hu).get ((((fun u _ => tk_ok u)) u (List.mem_of_getElem? hu))).c3) (Below.refl _ _))) rfl (.move rfl rfl (.eqI rfl rfl rfl (.ops0 (.thenN ?_)))))))))
       refine At.cond (b := decide (u.a = (parseR S1).2.1)) rfl (fun hc10 => ?_) (fun hc10 => ?_)
       ·skip
        have hc10' := of_decide_eq_true hc10
        refine .seq (.region (.move rfl rfl (.move rfl rfl (.yes rfl rfl rfl rfl (.move rfl rfl (.yes rfl rfl rfl rfl (.move rfl rfl (.yes rfl rfl rfl rfl (.indexAddr (i := k) rfl rfl (Own.slOk hO2) (lt_of_some hx) el43 sz47 rfl (.yes rfl rfl rfl rfl (.fieldAddr rfl fo47_3 rfl (.yes rfl rfl rfl rfl (.load rfl (Ld.cell ag3 (cell_keep ((((OwnR.rows hO2 (fun u hu => (((fun u _ => tk_ok u)) u hu).size))).row hx).get ((((fun u _ => tk_ok u)) x (List.mem_of_getElem? hx))).c3) (Below.refl _ _))) rfl (.yes rfl rfl rfl rfl (.move rfl rfl (.yes rfl rfl rfl rfl (.eqI rfl rfl rfl (.pickT rfl rfl rfl (.assign rfl rfl (.ops0 (.thenN (.retc (.inR (.thenR (.thenR (.inR (.thenR (.thenR (.doneR (ResV.tmp rfl ResV.nil) ?_)))))))))))))))))))))))))))))
        exact ⟨congrArg (fun b => Ending.returned (.bool b)) (by exact decide_eq_true (hF.hit hne h00 k u x hu hx (of_decide_eq_true hc10))), hB⟩
       ·skip
        have hc10' := of_decide_eq_false hc10
        refine .skip (.inN (.thenN (.region (.move rfl rfl (.addI rfl rfl rfl (by first | omega | (simp; done) | (simp; omega)) (.assign rfl rfl (.ops0 (.thenN ?_))))))))
        exact fun act_ hact_ => ⟨(k + 1), hact_.sub (Sub.cons rfl (Sub.cons rfl (Sub.cons rfl (Sub.cons rfl (Sub.cons rfl (Sub.cons rfl (Sub.cons rfl Sub.nil))))))), ⟨hB, hO1, hO2, (by omega), (no_next hn hu (of_decide_eq_false hc10))⟩, by first | omega | (dsimp only; omega)⟩
      ·skip
       have hc9' := of_decide_eq_false hc9
       refine .exit (.thenE (.thenE (.inE (.thenN (.seq (.region (.move rfl rfl (.move rfl rfl (.yes rfl rfl rfl rfl (.move rfl rfl (.yes rfl rfl rfl rfl (.move rfl rfl (.yes rfl rfl rfl rfl (.lenSl rfl (BytesAt.ok (BytesAt.eqL (BytesAt.take hv hle1) hS1)) el22 rfl (.yes rfl rfl rfl rfl (.eqI rfl rfl rfl (.pickT rfl rfl rfl (.assign rfl rfl (.ops0 (.thenN (.retc (.thenR (.doneR (ResV.tmp rfl ResV.nil) ?_)))))))))))))))))))))))
       exact ⟨congrArg (fun b => Ending.returned (.bool b)) (by exact decide_eq_true (hF.miss hne h00 fun i t ht => hn i t (by have := lt_of_some ht; omega) ht)), hB⟩
    ·skip
     refine .set (d := 80) (u := .bool false) rfl (congrArg Value.bool hg3) ?_
     have hg3' := of_decide_eq_false hg3
     refine .no rfl rfl rfl rfl rfl rfl rfl (.no rfl rfl rfl rfl rfl rfl rfl (.pickF rfl rfl rfl (.ops0 (.thenN (.condF rfl (.skip (.thenN (.seq (.seq ?_)))))))))
     have h00 : ¬ ((parseR S1).2.1 = 0 ∧ (parseR (textL (lexT S1))).2.1 = 0) := by intro h; simp_all
     refine .region (.assign rfl rfl (.ops0 (.thenN (.block ?_))))
     refine At.loop (Nat) (fun k => [(0, (takeV v (min l.length 2000))), (3, .bool true), (4, vt1), (8, .int .i64 ((parseR S1).2.1)), (10, vt2), (14, .int .i64 ((parseR (textL (lexT S1))).2.1)), (16, .int .i64 (k : Int))]) (fun k w18 => Below w.heap.size w w18 ∧ OwnR 47 4 Tk.cs w18 vt1 (lexT S1) ∧ OwnR 47 4 Tk.cs w18 vt2 (lexT (textL (lexT S1))) ∧ (k ≤ (lexT S1).length) ∧ (∀ (i : Nat) (t : Tk), i < k → (lexT S1)[i]? = some t → t.a ≠ (parseR S1).2.1)) (fun k => (lexT S1).length - k) (0 : Nat) (Sub.cons rfl (Sub.cons rfl (Sub.cons rfl (Sub.cons rfl (Sub.cons rfl (Sub.cons rfl (Sub.cons rfl Sub.nil))))))) ⟨hB, hO1, hO2, (Nat.zero_le _), (fun i t hi _ => absurd hi (Nat.not_lt_zero _))⟩ (fun k w18 hI => ?_)
     clear hB hb1 hb4 hO1 hO2 hXp1 hXp2
     obtain ⟨hB, hO1, hO2, hkb, hn⟩ := hI
     show At _ _ [(0, (takeV v (min l.length 2000))), (3, .bool true), (4, vt1), (8, .int .i64 ((parseR S1).2.1)), (10, vt2), (14, .int .i64 ((parseR (textL (lexT S1))).2.1)), (16, .int .i64 (k : Int))] _ _
     refine .seq (.seq (.region (.move rfl rfl (.move rfl rfl (.lenSl rfl (Own.slOk hO1) el43 rfl (.lss rfl rfl rfl (.ops0 (.thenN ?_))))))))
     refine At.cond (b := decide ((k : Int) < ((lexT S1).length : Int))) rfl (fun hc11 => ?_) (fun hc11 => ?_)
     ·skip
      have hc11' := of_decide_eq_true hc11
      refine .skip (.thenN (.seq (.block (.seq ?_))))
      obtain ⟨u, hu⟩ := some_of_lt (l := lexT S1) (i := k) (by omega)
      obtain ⟨x, hx⟩ := some_of_lt (l := lexT (textL (lexT S1))) (i := k) (by omega)
      refine .region (.move rfl rfl (.move rfl rfl (.indexAddr (i := k) rfl rfl (Own.slOk hO1) (lt_of_some hu) el43 sz47 rfl (.fieldAddr rfl fo47_3 rfl (.load rfl (Ld.cell ag3 (cell_keep ((((OwnR.rows hO1 (fun u hu => (((fun u _ => tk_ok u)) u hu).size))).row hu).get ((((fun u _ => tk_ok u)) u (List.mem_of_getElem? hu))).c3) (Below.refl _ _))) rfl (.move rfl rfl (.eqI rfl rfl rfl (.ops0 (.thenN ?_)))))))))
      refine At.cond (b := decide (u.a = (parseR S1).2.1)) rfl (fun hc12 => ?_) (fun hc12 => ?_)
      ·skip
       have hc12' := of_decide_eq_true hc12
       refine .seq (.region (.move rfl rfl (.move rfl rfl (.yes rfl rfl rfl rfl (.move rfl rfl (.yes rfl rfl rfl rfl (.move rfl rfl (.yes rfl rfl rfl rfl (.indexAddr (i := k) rfl rfl (Own.slOk hO2) (lt_of_some hx) el43 sz47 rfl (.yes rfl rfl rfl rfl (.fieldAddr rfl fo47_3 rfl (.yes rfl rfl rfl rfl (.load rfl (Ld.cell ag3 (cell_keep ((((OwnR.rows hO2 (fun u hu => (((fun u _ => tk_ok u)) u hu).size))).row hx).get ((((fun u _ => tk_ok u)) x (List.mem_of_getElem? hx))).c3) (Below.refl _ _))) rfl (.yes rfl rfl rfl rfl (.move rfl rfl (.yes rfl rfl rfl rfl (.eqI rfl rfl rfl (.pickT rfl rfl rfl (.assign rfl rfl (.ops0 (.thenN (.retc (.inR (.thenR (.thenR (.inR (.thenR (.thenR (.doneR (ResV.tmp rfl ResV.nil) ?_)))))))))))))))))))))))))))))
       exact ⟨congrArg (fun b => Ending.returned (.bool b)) (by exact decide_eq_true (hF.hit hne h00 k u x hu hx (of_decide_eq_true hc12))), hB⟩
      ·skip
       have hc12' := of_decide_eq_false hc12
       refine .skip (.inN (.thenN (.region (.move rfl rfl (.addI rfl rfl rfl (by first | omega | (simp; done) | (simp; omega)) (.assign rfl rfl (.ops0 (.thenN ?_))))))))
       exact fun act_ hact_ => ⟨(k + 1), hact_.sub (Sub.cons rfl (Sub.cons rfl (Sub.cons rfl (Sub.cons rfl (Sub.cons rfl (Sub.cons rfl (Sub.cons rfl Sub.nil))))))), ⟨hB, hO1, hO2, (by omega), (no_next hn hu (of_decide_eq_false hc12))⟩, by first | omega | (dsimp only; omega)⟩
     ·skip
      have hc11' := of_decide_eq_false hc11
      refine .exit (.thenE (.thenE (.inE (.thenN (.seq (.region (.move rfl rfl (.move rfl rfl (.yes rfl rfl rfl rfl (.move rfl rfl (.yes rfl rfl rfl rfl (.move rfl rfl (.yes rfl rfl rfl rfl (.lenSl rfl (BytesAt.ok (BytesAt.eqL (BytesAt.take hv hle1) hS1)) el22 rfl (.yes rfl rfl rfl rfl (.eqI rfl rfl rfl (.pickT rfl rfl rfl (.assign rfl rfl (.ops0 (.thenN (.retc (.thenR (.doneR (ResV.tmp rfl ResV.nil) ?_)))))))))))))))))))))))
      exact ⟨congrArg (fun b => Ending.returned (.bool b)) (by exact decide_eq_true (hF.miss hne h00 fun i t ht => hn i t (by have := lt_of_some ht; omega) ht)), hB⟩
  ·skip
   have hc2' := hc2; simp only [Bool.not_eq_true', Bool.not_eq_false', decide_eq_true_eq, decide_eq_false_iff_not] at hc2'
   refine .skip (.thenN (.seq ?_))
   have hok := hF.ok (by simpa using hc2)
   refine .region (.move rfl rfl (.move rfl rfl (.yes rfl rfl rfl rfl (.move rfl rfl (.yes rfl rfl rfl rfl (.eqI rfl rfl rfl (.pickT rfl rfl rfl (.move rfl rfl ?_))))))))
   refine At.cases (decide ((parseR S1).2.1 = 0)) (fun hg4 => ?_) (fun hg4 => ?_)
   ·skip
    refine .set (d := 120) (u := .bool true) rfl (congrArg Value.bool hg4) ?_
    have hg4' := of_decide_eq_true hg4
    refine .yes rfl rfl rfl rfl (.fieldAddr rfl fo37_2 rfl (.yes rfl rfl rfl rfl (.load rfl (Ld.ownPart ag35 (sz35.trans (congrArg some (((Xs.one hXp1)).bodyOk).size.symm)) hb1 ((Xs.one hXp1)).bodyCs) rfl (.yes rfl rfl rfl rfl (.move rfl rfl (.yes rfl rfl rfl rfl (.lenSl rfl (BytesAt.ok (BytesAt.eqL (BytesAt.take hv hle1) hS1)) el22 rfl (.yes rfl rfl rfl rfl ?_))))))))
    refine At.call en22 rfl rfl (bare_any (S1.length : Int) _ pr1.body (Nat.le_refl _) 0 hok.2.1 hpl1 _ ((Xs.one hXp1)).bodyOk) (fun e w19 hR => ?_)
    obtain ⟨rfl, hbl11⟩ := hR
    refine ⟨_, rfl, ?_⟩
    replace hb1 := Below.old hbl11 hb1
    replace hb4 := Below.old hbl11 hb4
    replace hO1 := hO1.below hbl11
    replace hO2 := hO2.below hbl11
    replace hXp1 := Xs.below hXp1 hbl11
    replace hXp2 := Xs.below hXp2 hbl11
    replace hB := Below.andThen hB hbl11
    refine .pickT rfl rfl rfl (.move rfl rfl (.yes rfl rfl rfl rfl (.fieldAddr rfl fo37_2 rfl (.yes rfl rfl rfl rfl (.load rfl (Ld.ownPart ag35 (sz35.trans (congrArg some (((Xs.one hXp1)).bodyOk).size.symm)) hb1 ((Xs.one hXp1)).bodyCs) rfl (.yes rfl rfl rfl rfl ?_))))))
    refine At.call en19 rfl rfl (Depth_any pr1.body _ ((Xs.one hXp1)).bodyOk) (fun e w20 hR => ?_)
    obtain ⟨rfl, hbl12⟩ := hR
    refine ⟨_, rfl, ?_⟩
    replace hb1 := Below.old hbl12 hb1
    replace hb4 := Below.old hbl12 hb4
    replace hO1 := hO1.below hbl12
    replace hO2 := hO2.below hbl12
    replace hXp1 := Xs.below hXp1 hbl12
    replace hXp2 := Xs.below hXp2 hbl12
    replace hB := Below.andThen hB hbl12
    refine .yes rfl rfl rfl rfl (.leq rfl rfl rfl (.pickT rfl rfl rfl (.assign rfl rfl (.ops0 (.thenN (.retc (.doneR (ResV.tmp rfl ResV.nil) ?_)))))))
    exact ⟨congrArg (fun b => Ending.returned (.bool b)) (by first | rfl | (simp [hok.1]; omega) | simp [hok.1] | omega), hB⟩
   ·skip
    refine .set (d := 120) (u := .bool false) rfl (congrArg Value.bool hg4) ?_
    have hg4' := of_decide_eq_false hg4
    refine .no rfl rfl rfl rfl rfl rfl rfl (.no rfl rfl rfl rfl rfl rfl rfl (.no rfl rfl rfl rfl rfl rfl rfl (.no rfl rfl rfl rfl rfl rfl rfl (.no rfl rfl rfl rfl rfl rfl rfl (.pickF rfl rfl rfl (.move rfl rfl (.no rfl rfl rfl rfl rfl rfl rfl (.no rfl rfl rfl rfl rfl rfl rfl (.no rfl rfl rfl rfl rfl rfl rfl (.no rfl rfl rfl rfl rfl rfl rfl (.pickF rfl rfl rfl (.assign rfl rfl (.ops0 (.thenN (.retc (.doneR (ResV.tmp rfl ResV.nil) ?_))))))))))))))))
    exact ⟨congrArg (fun b => Ending.returned (.bool b)) (by first | rfl | (simp [hok.1]; omega) | simp [hok.1] | omega), hB⟩
end Go.Proofs.Ytkjmjnddanhapaa
