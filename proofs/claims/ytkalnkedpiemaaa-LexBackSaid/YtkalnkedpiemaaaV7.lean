/-
  The walk of the statement LexBack. Written by a program of ours.
-/
import Derived.Test.YtkalnkedpiemaaaV6
set_option linter.unusedVariables false
set_option linter.unusedSimpArgs false
namespace Go.Proofs.Ytkalnkedpiemaaa
open Go.RowKit

set_option maxHeartbeats 4000000 in
theorem lexBack_any (v : Value) (l : List UInt8) (m : Int) (w : World) (hv : BytesAt w v l)(hm : w.cell? ⟨0, 0, none⟩ = some (.int .i64 m)) :
    Calls Try.prog 3 ([v] : List Value).toArray w fun e w' => e = .returned (.bool true) ∧ Below w.heap.size w w' := by
  have hB := Below.refl w.heap.size w
  refine At.enter (N := 139) Try.func3 rfl rfl (by simp) [(0, v)] (by simp) ?_
  refine At.seq ?_
  refine At.region ?_
  refine At.assign rfl rfl ?_
  refine At.ops0 ?_
  refine At.thenN ?_
  refine At.seq ?_
  refine At.region ?_
  refine At.call en10 rfl rfl (shown_any m _ (cell_keep hm hB)) (fun e w1 hR => ?_)
  obtain ⟨rfl, hbl1⟩ := hR
  refine ⟨_, rfl, ?_⟩
  replace hB := Below.andThen hB hbl1
  refine At.assign rfl rfl ?_
  refine At.ops0 ?_
  refine At.thenN ?_
  refine At.seq ?_
  refine At.region ?_
  refine At.move rfl rfl ?_
  refine At.move rfl rfl ?_
  refine At.lenSl rfl (BytesAt.ok hv) el22 rfl ?_
  refine At.minI rfl rfl rfl ?_
  refine At.set (d := 18) (u := .int .i64 (((min l.length 3000) : Nat) : Int)) rfl (congrArg (Value.int .i64) (min_lit _ _)) ?_
  have hle1 : (min l.length 3000) ≤ l.length := by omega
  refine At.sliceTo (h := (min l.length 3000)) rfl rfl (BytesAt.ok hv) el22 sz5 hle1 rfl ?_
  obtain ⟨S1, hS1, bS1⟩ : ∃ x : List UInt8, (l.take (min l.length 3000)) = x ∧ x.length ≤ 3000 := ⟨_, rfl, by simp only [List.length_take]; omega⟩
  refine At.assign rfl rfl ?_
  refine At.ops0 ?_
  refine At.thenN ?_
  refine At.seq ?_
  refine At.region ?_
  refine At.move rfl rfl ?_
  refine At.call en11 rfl rfl (lex_to (takeV v (min l.length 3000)) S1 m _ (lexT S1) (lexA S1) (lexE S1) ⟨rfl, rfl, rfl⟩ (BytesAt.keep (BytesAt.eqL (BytesAt.take hv hle1) hS1) hB) (cell_keep hm hB)) (fun e w2 hR => ?_)
  obtain ⟨vt1, rfl, hbl2, hO1, ghO1⟩ := hR
  refine ⟨_, rfl, ?_⟩
  replace ghO1 : ∀ g, Value.ownBlock vt1 = some g → w.heap.size ≤ g := fun g h => Nat.le_trans hB.size (ghO1 g h)
  replace hB := Below.andThen hB hbl2
  refine At.move rfl rfl ?_
  refine At.extract rfl rfl rfl ?_
  refine At.extract rfl rfl rfl ?_
  refine At.extract rfl rfl rfl ?_
  refine At.assign rfl rfl ?_
  refine At.assign rfl rfl ?_
  refine At.assign rfl rfl ?_
  refine At.ops0 ?_
  refine At.thenN ?_
  refine At.seq ?_
  refine At.seq ?_
  refine At.region ?_
  refine At.move rfl rfl ?_
  refine At.neI rfl rfl rfl ?_
  refine At.ops0 ?_
  refine At.thenN ?_
  refine At.cond (b := (!decide ((lexE S1) = 0))) rfl (fun hc1 => ?_) (fun hc1 => ?_)
  · skip
    have hc1' := hc1; simp only [Bool.not_eq_true', Bool.not_eq_false', decide_eq_true_eq, decide_eq_false_iff_not] at hc1'
    refine At.seq ?_
    obtain ⟨_, hwe, hwa, hwt⟩ := lex_wrong (l := S1) (by simpa using hc1) (by omega)
    refine At.region ?_
    refine At.move rfl rfl ?_
    refine At.move rfl rfl ?_
    refine At.yes rfl rfl rfl rfl ?_
    refine At.move rfl rfl ?_
    refine At.yes rfl rfl rfl rfl ?_
    refine At.eqI rfl rfl rfl ?_
    refine At.pickT rfl rfl rfl ?_
    refine At.move rfl rfl ?_
    have hbb1 : (decide ((lexE S1) = 2)) = true := decide_eq_true hwe
    refine At.set (d := 33) (u := .bool true) rfl (congrArg Value.bool hbb1) ?_
    refine At.yes rfl rfl rfl rfl ?_
    refine At.move rfl rfl ?_
    refine At.yes rfl rfl rfl rfl ?_
    refine At.geq rfl rfl rfl ?_
    refine At.pickT rfl rfl rfl ?_
    refine At.move rfl rfl ?_
    have hbb2 : (decide (0 ≤ ((lexA S1) : Int))) = true := decide_eq_true (by omega)
    refine At.set (d := 37) (u := .bool true) rfl (congrArg Value.bool hbb2) ?_
    refine At.yes rfl rfl rfl rfl ?_
    refine At.move rfl rfl ?_
    refine At.yes rfl rfl rfl rfl ?_
    refine At.move rfl rfl ?_
    refine At.yes rfl rfl rfl rfl ?_
    refine At.lenSl rfl (BytesAt.ok (BytesAt.eqL (BytesAt.take hv hle1) hS1)) el22 rfl ?_
    refine At.yes rfl rfl rfl rfl ?_
    refine At.lss rfl rfl rfl ?_
    refine At.pickT rfl rfl rfl ?_
    refine At.move rfl rfl ?_
    have hbb3 : (decide (((lexA S1) : Int) < (S1.length : Int))) = true := decide_eq_true (by omega)
    refine At.set (d := 43) (u := .bool true) rfl (congrArg Value.bool hbb3) ?_
    refine At.yes rfl rfl rfl rfl ?_
    refine At.move rfl rfl ?_
    refine At.yes rfl rfl rfl rfl ?_
    refine At.lenSl rfl (Own.slOk hO1) el24 rfl ?_
    refine At.yes rfl rfl rfl rfl ?_
    refine At.eqI rfl rfl rfl ?_
    refine At.pickT rfl rfl rfl ?_
    refine At.assign rfl rfl ?_
    refine At.ops0 ?_
    refine At.thenN ?_
    refine At.retc ?_
    refine At.thenR ?_
    refine At.doneR (ResV.tmp rfl ResV.nil) ?_
    exact ⟨congrArg Ending.returned (congrArg Value.bool (show (decide (((lexT S1).length : Int) = 0)) = true from decide_eq_true (by rw [hwt]; rfl))), hB⟩
  · skip
    have hc1' := hc1; simp only [Bool.not_eq_true', Bool.not_eq_false', decide_eq_true_eq, decide_eq_false_iff_not] at hc1'
    refine At.skip ?_
    refine At.thenN ?_
    refine At.seq ?_
    have hW := words_of (l := S1) (by simpa using hc1); have hlen := hW.len; have hsum := hW.sum; have htx := hW.text
    obtain ⟨ts2, hl2, hst⟩ := lex_text (lexT S1) hW.wd 0
    refine At.region ?_
    refine At.move rfl rfl ?_
    refine At.call en12 rfl rfl (text_any vt1 (lexT S1) _ (OwnR.rows hO1 (fun u hu => (((fun u _ => tk_ok u)) u hu).size)) (by omega) (fun t ht => by have := hW.tok t ht; omega) (by omega)) (fun e w3 hR => ?_)
    obtain ⟨rfl, hbl3⟩ := hR
    refine ⟨_, rfl, ?_⟩
    replace hO1 := hO1.below hbl3
    replace hB := Below.andThen hB hbl3
    refine At.toBytes (l := (textL (lexT S1))) rfl st9 el22 ik5 (by omega) rfl (fun b1 cap1 w4 hgbb1 hbl4 hby1 => ?_)
    replace hO1 := hO1.below hbl4
    replace hB := Below.andThen hB hbl4
    refine At.call en11 rfl rfl (lex_to (.slice (some ⟨b1, 0, none⟩) (textL (lexT S1)).length cap1) (textL (lexT S1)) m _ ts2 0 0 (lex_ok (by omega) hl2) (BytesAt.keep hby1 (Below.refl _ _)) (cell_keep hm hB)) (fun e w5 hR => ?_)
    obtain ⟨vt2, rfl, hbl5, hO2, ghO2⟩ := hR
    refine ⟨_, rfl, ?_⟩
    replace ghO2 : ∀ g, Value.ownBlock vt2 = some g → w.heap.size ≤ g := fun g h => Nat.le_trans hB.size (ghO2 g h)
    replace hO1 := hO1.below hbl5
    replace hby1 := hby1.below hbl5
    replace hB := Below.andThen hB hbl5
    refine At.move rfl rfl ?_
    refine At.extract rfl rfl rfl ?_
    refine At.extract rfl rfl rfl ?_
    refine At.extract rfl rfl rfl ?_
    refine At.assign rfl rfl ?_
    refine At.assign rfl rfl ?_
    refine At.assign rfl rfl ?_
    refine At.ops0 ?_
    refine At.thenN ?_
    refine At.seq ?_
    refine At.region ?_
    refine At.move rfl rfl ?_
    refine At.move rfl rfl ?_
    refine At.call en13 rfl rfl (same_any vt1 vt2 (lexT S1) ts2 false _ (OwnR.rows hO1 (fun u hu => (((fun u _ => tk_ok u)) u hu).size)) (OwnR.rows hO2 (fun u hu => (((fun u _ => tk_ok u)) u hu).size)) (by omega)) (fun e w6 hR => ?_)
    obtain ⟨rfl, hbl6⟩ := hR
    refine ⟨_, rfl, ?_⟩
    replace hO1 := hO1.below hbl6
    replace hby1 := hby1.below hbl6
    replace hO2 := hO2.below hbl6
    replace hB := Below.andThen hB hbl6
    refine At.assign rfl rfl ?_
    refine At.ops0 ?_
    refine At.thenN ?_
    refine At.seq ?_
    refine At.region ?_
    refine At.assign rfl rfl ?_
    refine At.ops0 ?_
    refine At.thenN ?_
    refine At.seq ?_
    refine At.seq ?_
    refine At.region ?_
    refine At.assign rfl rfl ?_
    refine At.ops0 ?_
    refine At.thenN ?_
    refine At.block ?_
    refine At.loop (Nat × Nat) (fun (k, e0) => [(0, (takeV v (min l.length 3000))), (3, .bool true), (4, vt1), (9, .int .i64 0), (10, .bool (sameB false (lexT S1) ts2)), (11, .int .i64 (e0 : Int)), (12, .int .i64 (k : Int))]) (fun (k, e0) w7 => Below w.heap.size w w7 ∧ OwnR 31 4 Tk.cs w7 vt1 (lexT S1) ∧ (k ≤ (lexT S1).length) ∧ (PosL S1 e0 ((lexT S1).drop k))) (fun (k, e0) => (lexT S1).length - k) (0, 0) (Sub.cons rfl (Sub.cons rfl (Sub.cons rfl (Sub.cons rfl (Sub.cons rfl (Sub.cons rfl (Sub.cons rfl Sub.nil))))))) ⟨hB, hO1, (Nat.zero_le _), (lexW_pos S1 _ 0 (Nat.le_refl _) (Nat.zero_le _) _ hW.lex 0 (Nat.le_refl _))⟩ (fun gh w7 hI => ?_)
    obtain ⟨k, e0⟩ := gh
    clear hB hO1 hby1 hO2
    obtain ⟨hB, hO1, hkb, hpos⟩ := hI
    show At _ _ [(0, (takeV v (min l.length 3000))), (3, .bool true), (4, vt1), (9, .int .i64 0), (10, .bool (sameB false (lexT S1) ts2)), (11, .int .i64 (e0 : Int)), (12, .int .i64 (k : Int))] _ _
    refine At.seq ?_
    refine At.seq ?_
    refine At.region ?_
    refine At.move rfl rfl ?_
    refine At.move rfl rfl ?_
    refine At.lenSl rfl (Own.slOk hO1) el24 rfl ?_
    refine At.lss rfl rfl rfl ?_
    refine At.ops0 ?_
    refine At.thenN ?_
    refine At.cond (b := decide ((k : Int) < ((lexT S1).length : Int))) rfl (fun hc2 => ?_) (fun hc2 => ?_)
    · skip
      have hc2' := of_decide_eq_true hc2
      refine At.skip ?_
      refine At.thenN ?_
      refine At.seq ?_
      refine At.block ?_
      refine At.seq ?_
      obtain ⟨x, hx⟩ := some_of_lt (l := lexT S1) (i := k) (by omega)
      rw [List.drop_eq_getElem_cons (lt_of_some hx), (List.getElem?_eq_some_iff.1 hx).2] at hpos
      obtain ⟨p, hxa, hxe, hxl, hxb, hxn, hk1, hk6, hxz, hxr⟩ := hpos
      have hxp : x = (Tk.put x p) := by cases x; simp only [Tk.put] at hxa ⊢; rw [hxa]
      have hx' : (lexT S1)[k]? = some (Tk.put x p) := hxp ▸ hx
      change p + (Tk.put x p).t.length ≤ _ at hxl; change ((Tk.put x p).k ≠ 1 → (Tk.put x p).n = 0) at hxz; change 1 ≤ (Tk.put x p).k at hk1; change (Tk.put x p).k ≤ 6 at hk6; change (Tk.put x p).t ≠ [] at hxn; change (S1.drop p).take (Tk.put x p).t.length = (Tk.put x p).t at hxb; change PosL S1 (p + (Tk.put x p).t.length) _ at hxr
      refine At.region ?_
      refine At.move rfl rfl ?_
      refine At.move rfl rfl ?_
      refine At.indexAddr (i := k) rfl rfl (Own.slOk hO1) (lt_of_some hx') el24 sz31 rfl ?_
      refine At.load rfl (Ld.row ag31 (sz31.trans (congrArg some ((((fun u _ => tk_ok u)) (Tk.put x p) (List.mem_of_getElem? hx'))).size.symm)) ((((OwnR.rows hO1 (fun u hu => (((fun u _ => tk_ok u)) u hu).size))).row hx').keep (Below.refl _ _))) rfl ?_
      refine At.alloc ze31 rfl (fun b2 w8 F1 => ?_)
      have q_hO1_b2 : some b2 ≠ Value.ownBlock vt1 := Own.neFresh hO1 F1
      have gb2 := F1.ge hB
      replace hO1 := hO1.fresh F1
      have hb2 : w8.heap[b2]? = some (.cells #[.int .i64 0, .string (⟨#[]⟩ : ByteArray), .int .i64 0, .int .i64 0] 31) := F1.new
      replace hB := F1.below' hB
      refine At.storeAll rfl rfl hb2 (sz31.trans (congrArg some ((((fun u _ => tk_ok u)) (Tk.put x p) (List.mem_of_getElem? hx'))).size.symm)) ((((fun u _ => tk_ok u)) (Tk.put x p) (List.mem_of_getElem? hx'))).size.symm ((((fun u _ => tk_ok u)) (Tk.put x p) (List.mem_of_getElem? hx'))).one (fun w9 S2 => ?_)
      replace hO1 := hO1.set S2 q_hO1_b2
      replace hb2 : w9.heap[b2]? = some (.cells (Tk.put x p).cs 31) := S2.new
      replace hB := S2.below' hB gb2
      refine At.ops0 ?_
      refine At.thenN ?_
      refine At.seq ?_
      refine At.seq ?_
      have hbb4 : (decide ((p : Int) < (e0 : Int))) = false := decide_eq_false (by omega)
      have hbb5 : (decide ((Tk.put x p).t = ([] : List UInt8))) = false := decide_eq_false hxn
      have hbb6 : (decide ((S1.length : Int) < ((p : Int) + ((Tk.put x p).t.length : Int)))) = false := decide_eq_false (by omega)
      have hbb7 : ((!decide ((Tk.put x p).t = (Tk.put x p).t))) = false := by simp
      have hbb8 : (decide ((Tk.put x p).k < 1)) = false := decide_eq_false (by omega)
      have hbb9 : (decide (6 < (Tk.put x p).k)) = false := decide_eq_false (by omega)
      refine At.cases ((!decide ((Tk.put x p).k = 1))) (fun hg1 => ?_) (fun hg1 => ?_)
      · skip
        have hg1' := hg1; simp only [Bool.not_eq_true', Bool.not_eq_false', decide_eq_true_eq, decide_eq_false_iff_not] at hg1'
        refine At.drawG (n := 56) mixed (by kernel_rfl) rfl (PanicOk.then (PanicOk.then (PanicOk.block (PanicOk.then (PanicOk.then (PanicOk.block (PanicOk.then PanicOk.body))))))) ?_
        have hB := Below.drewB hB
        have hb2 : _ := (show w9.drew.heap[b2]? = _ from hb2)
        have hO1 := hO1.drew
        refine At.wpcL #[false, false, false, false, false, false, false, false, false, false, false, false, false, false, false, false, false, false, false, false, false, false, false, false, false, false, false, false, false, false, false, false, false, false, false, false, false, false, false, false, false, false, false, false, false, false, false, false, false, false, false, false, false, false, false, false] (by kernel_rfl) ?_
        refine At.wpcS (i := 0) (d := 69) (.pointer (some ⟨b2, 0 + 3, none⟩)) (by kernel_rfl) rfl rfl rfl (fun Lx => ?_) ?_
        · skip
          refine At.fieldAddr rfl fo31_3 rfl ?_
          refine At.ops0 ?_
          exact fun a ha => ⟨ha, rfl⟩
        refine At.wpcL #[true, false, false, false, false, false, false, false, false, false, false, false, false, false, false, false, false, false, false, false, false, false, false, false, false, false, false, false, false, false, false, false, false, false, false, false, false, false, false, false, false, false, false, false, false, false, false, false, false, false, false, false, false, false, false, false] (by kernel_rfl) ?_
        refine At.wpcS (i := 1) (d := 70) (.int .i64 (p : Int)) (by kernel_rfl) rfl rfl rfl (fun Lx => ?_) ?_
        · skip
          refine At.load rfl (Ld.ownCell ag3 hb2 ((((fun u _ => tk_ok u)) (Tk.put x p) (List.mem_of_getElem? hx'))).c3) rfl ?_
          refine At.ops0 ?_
          exact fun a ha => ⟨ha, rfl⟩
        refine At.wpcL #[true, true, false, false, false, false, false, false, false, false, false, false, false, false, false, false, false, false, false, false, false, false, false, false, false, false, false, false, false, false, false, false, false, false, false, false, false, false, false, false, false, false, false, false, false, false, false, false, false, false, false, false, false, false, false, false] (by kernel_rfl) ?_
        refine At.wpcS (i := 2) (d := 71) (.int .i64 (e0 : Int)) (by kernel_rfl) rfl rfl rfl (fun Lx => ?_) ?_
        · skip
          refine At.move rfl rfl ?_
          refine At.ops0 ?_
          exact fun a ha => ⟨ha, rfl⟩
        refine At.wpcL #[true, true, true, false, false, false, false, false, false, false, false, false, false, false, false, false, false, false, false, false, false, false, false, false, false, false, false, false, false, false, false, false, false, false, false, false, false, false, false, false, false, false, false, false, false, false, false, false, false, false, false, false, false, false, false, false] (by kernel_rfl) ?_
        refine At.wpcS (i := 3) (d := 72) (.bool (decide ((p : Int) < (e0 : Int)))) (by kernel_rfl) rfl rfl rfl (fun Lx => ?_) ?_
        · skip
          refine At.lss rfl rfl rfl ?_
          refine At.ops0 ?_
          exact fun a ha => ⟨ha, rfl⟩
        refine At.set (d := 72) (u := .bool false) rfl (congrArg Value.bool hbb4) ?_
        refine At.wpcL #[true, true, true, true, false, false, false, false, false, false, false, false, false, false, false, false, false, false, false, false, false, false, false, false, false, false, false, false, false, false, false, false, false, false, false, false, false, false, false, false, false, false, false, false, false, false, false, false, false, false, false, false, false, false, false, false] (by kernel_rfl) ?_
        refine At.wpcS (i := 4) (d := 73) (.bool false) (by kernel_rfl) rfl rfl rfl (fun Lx => ?_) ?_
        · skip
          refine At.move rfl rfl ?_
          refine At.ops0 ?_
          exact fun a ha => ⟨ha, rfl⟩
        refine At.wpcL #[true, true, true, true, true, false, false, false, false, false, false, false, false, false, false, false, false, false, false, false, false, false, false, false, false, false, false, false, false, false, false, false, false, false, false, false, false, false, false, false, false, false, false, false, false, false, false, false, false, false, false, false, false, false, false, false] (by kernel_rfl) ?_
        refine At.wpcS (i := 5) (d := 74) (.pointer (some ⟨b2, 0 + 1, none⟩)) (by kernel_rfl) rfl rfl rfl (fun Lx => ?_) ?_
        · skip
          refine At.yes rfl rfl rfl rfl ?_
          refine At.fieldAddr rfl fo31_1 rfl ?_
          refine At.ops0 ?_
          exact fun a ha => ⟨ha, rfl⟩
        refine At.wpcL #[true, true, true, true, true, true, false, false, false, false, false, false, false, false, false, false, false, false, false, false, false, false, false, false, false, false, false, false, false, false, false, false, false, false, false, false, false, false, false, false, false, false, false, false, false, false, false, false, false, false, false, false, false, false, false, false] (by kernel_rfl) ?_
        refine At.wpcS (i := 6) (d := 75) (.string (bs ((Tk.put x p).t))) (by kernel_rfl) rfl rfl rfl (fun Lx => ?_) ?_
        · skip
          refine At.yes rfl rfl rfl rfl ?_
          refine At.load rfl (Ld.ownCell ag9 hb2 ((((fun u _ => tk_ok u)) (Tk.put x p) (List.mem_of_getElem? hx'))).c1) rfl ?_
          refine At.ops0 ?_
          exact fun a ha => ⟨ha, rfl⟩
        refine At.wpcL #[true, true, true, true, true, true, true, false, false, false, false, false, false, false, false, false, false, false, false, false, false, false, false, false, false, false, false, false, false, false, false, false, false, false, false, false, false, false, false, false, false, false, false, false, false, false, false, false, false, false, false, false, false, false, false, false] (by kernel_rfl) ?_
        refine At.wpcS (i := 7) (d := 76) (.bool (decide ((Tk.put x p).t = ([] : List UInt8)))) (by kernel_rfl) rfl rfl rfl (fun Lx => ?_) ?_
        · skip
          refine At.yes rfl rfl rfl rfl ?_
          refine At.eqB' (a := (Tk.put x p).t) (b := ([] : List UInt8)) rfl rfl rfl ?_
          refine At.ops0 ?_
          exact fun a ha => ⟨ha, rfl⟩
        refine At.set (d := 76) (u := .bool false) rfl (congrArg Value.bool hbb5) ?_
        refine At.wpcL #[true, true, true, true, true, true, true, true, false, false, false, false, false, false, false, false, false, false, false, false, false, false, false, false, false, false, false, false, false, false, false, false, false, false, false, false, false, false, false, false, false, false, false, false, false, false, false, false, false, false, false, false, false, false, false, false] (by kernel_rfl) ?_
        refine At.wpcS (i := 8) (d := 77) (.bool false) (by kernel_rfl) rfl rfl rfl (fun Lx => ?_) ?_
        · skip
          refine At.pickF rfl rfl rfl ?_
          refine At.ops0 ?_
          exact fun a ha => ⟨ha, rfl⟩
        refine At.wpcL #[true, true, true, true, true, true, true, true, true, false, false, false, false, false, false, false, false, false, false, false, false, false, false, false, false, false, false, false, false, false, false, false, false, false, false, false, false, false, false, false, false, false, false, false, false, false, false, false, false, false, false, false, false, false, false, false] (by kernel_rfl) ?_
        refine At.wpcS (i := 9) (d := 78) (.bool false) (by kernel_rfl) rfl rfl rfl (fun Lx => ?_) ?_
        · skip
          refine At.move rfl rfl ?_
          refine At.ops0 ?_
          exact fun a ha => ⟨ha, rfl⟩
        refine At.wpcL #[true, true, true, true, true, true, true, true, true, true, false, false, false, false, false, false, false, false, false, false, false, false, false, false, false, false, false, false, false, false, false, false, false, false, false, false, false, false, false, false, false, false, false, false, false, false, false, false, false, false, false, false, false, false, false, false] (by kernel_rfl) ?_
        refine At.wpcS (i := 10) (d := 79) (.pointer (some ⟨b2, 0 + 3, none⟩)) (by kernel_rfl) rfl rfl rfl (fun Lx => ?_) ?_
        · skip
          refine At.yes rfl rfl rfl rfl ?_
          refine At.fieldAddr rfl fo31_3 rfl ?_
          refine At.ops0 ?_
          exact fun a ha => ⟨ha, rfl⟩
        refine At.wpcL #[true, true, true, true, true, true, true, true, true, true, true, false, false, false, false, false, false, false, false, false, false, false, false, false, false, false, false, false, false, false, false, false, false, false, false, false, false, false, false, false, false, false, false, false, false, false, false, false, false, false, false, false, false, false, false, false] (by kernel_rfl) ?_
        refine At.wpcS (i := 11) (d := 80) (.int .i64 (p : Int)) (by kernel_rfl) rfl rfl rfl (fun Lx => ?_) ?_
        · skip
          refine At.yes rfl rfl rfl rfl ?_
          refine At.load rfl (Ld.ownCell ag3 hb2 ((((fun u _ => tk_ok u)) (Tk.put x p) (List.mem_of_getElem? hx'))).c3) rfl ?_
          refine At.ops0 ?_
          exact fun a ha => ⟨ha, rfl⟩
        refine At.wpcL #[true, true, true, true, true, true, true, true, true, true, true, true, false, false, false, false, false, false, false, false, false, false, false, false, false, false, false, false, false, false, false, false, false, false, false, false, false, false, false, false, false, false, false, false, false, false, false, false, false, false, false, false, false, false, false, false] (by kernel_rfl) ?_
        refine At.wpcS (i := 12) (d := 81) (.pointer (some ⟨b2, 0 + 1, none⟩)) (by kernel_rfl) rfl rfl rfl (fun Lx => ?_) ?_
        · skip
          refine At.yes rfl rfl rfl rfl ?_
          refine At.fieldAddr rfl fo31_1 rfl ?_
          refine At.ops0 ?_
          exact fun a ha => ⟨ha, rfl⟩
        refine At.wpcL #[true, true, true, true, true, true, true, true, true, true, true, true, true, false, false, false, false, false, false, false, false, false, false, false, false, false, false, false, false, false, false, false, false, false, false, false, false, false, false, false, false, false, false, false, false, false, false, false, false, false, false, false, false, false, false, false] (by kernel_rfl) ?_
        refine At.wpcS (i := 13) (d := 82) (.string (bs ((Tk.put x p).t))) (by kernel_rfl) rfl rfl rfl (fun Lx => ?_) ?_
        · skip
          refine At.yes rfl rfl rfl rfl ?_
          refine At.load rfl (Ld.ownCell ag9 hb2 ((((fun u _ => tk_ok u)) (Tk.put x p) (List.mem_of_getElem? hx'))).c1) rfl ?_
          refine At.ops0 ?_
          exact fun a ha => ⟨ha, rfl⟩
        refine At.wpcL #[true, true, true, true, true, true, true, true, true, true, true, true, true, true, false, false, false, false, false, false, false, false, false, false, false, false, false, false, false, false, false, false, false, false, false, false, false, false, false, false, false, false, false, false, false, false, false, false, false, false, false, false, false, false, false, false] (by kernel_rfl) ?_
        refine At.wpcS (i := 14) (d := 83) (.int .i64 ((Tk.put x p).t.length : Int)) (by kernel_rfl) rfl rfl rfl (fun Lx => ?_) ?_
        · skip
          refine At.yes rfl rfl rfl rfl ?_
          refine At.lenB (l := (Tk.put x p).t) rfl st9 rfl ?_
          refine At.ops0 ?_
          exact fun a ha => ⟨ha, rfl⟩
        refine At.wpcL #[true, true, true, true, true, true, true, true, true, true, true, true, true, true, true, false, false, false, false, false, false, false, false, false, false, false, false, false, false, false, false, false, false, false, false, false, false, false, false, false, false, false, false, false, false, false, false, false, false, false, false, false, false, false, false, false] (by kernel_rfl) ?_
        refine At.wpcS (i := 15) (d := 84) (.int .i64 ((p : Int) + ((Tk.put x p).t.length : Int))) (by kernel_rfl) rfl rfl rfl (fun Lx => ?_) ?_
        · skip
          refine At.yes rfl rfl rfl rfl ?_
          refine At.addI rfl rfl rfl (by omega) ?_
          refine At.ops0 ?_
          exact fun a ha => ⟨ha, rfl⟩
        refine At.wpcL #[true, true, true, true, true, true, true, true, true, true, true, true, true, true, true, true, false, false, false, false, false, false, false, false, false, false, false, false, false, false, false, false, false, false, false, false, false, false, false, false, false, false, false, false, false, false, false, false, false, false, false, false, false, false, false, false] (by kernel_rfl) ?_
        refine At.wpcS (i := 16) (d := 85) ((takeV v (min l.length 3000))) (by kernel_rfl) rfl rfl rfl (fun Lx => ?_) ?_
        · skip
          refine At.yes rfl rfl rfl rfl ?_
          refine At.move rfl rfl ?_
          refine At.ops0 ?_
          exact fun a ha => ⟨ha, rfl⟩
        refine At.wpcL #[true, true, true, true, true, true, true, true, true, true, true, true, true, true, true, true, true, false, false, false, false, false, false, false, false, false, false, false, false, false, false, false, false, false, false, false, false, false, false, false, false, false, false, false, false, false, false, false, false, false, false, false, false, false, false, false] (by kernel_rfl) ?_
        refine At.wpcS (i := 17) (d := 86) (.int .i64 (S1.length : Int)) (by kernel_rfl) rfl rfl rfl (fun Lx => ?_) ?_
        · skip
          refine At.yes rfl rfl rfl rfl ?_
          refine At.lenSl rfl (BytesAt.ok (BytesAt.eqL (BytesAt.take hv hle1) hS1)) el22 rfl ?_
          refine At.ops0 ?_
          exact fun a ha => ⟨ha, rfl⟩
        refine At.wpcL #[true, true, true, true, true, true, true, true, true, true, true, true, true, true, true, true, true, true, false, false, false, false, false, false, false, false, false, false, false, false, false, false, false, false, false, false, false, false, false, false, false, false, false, false, false, false, false, false, false, false, false, false, false, false, false, false] (by kernel_rfl) ?_
        refine At.wpcS (i := 18) (d := 87) (.bool (decide ((S1.length : Int) < ((p : Int) + ((Tk.put x p).t.length : Int))))) (by kernel_rfl) rfl rfl rfl (fun Lx => ?_) ?_
        · skip
          refine At.yes rfl rfl rfl rfl ?_
          refine At.gtr rfl rfl rfl ?_
          refine At.ops0 ?_
          exact fun a ha => ⟨ha, rfl⟩
        refine At.set (d := 87) (u := .bool false) rfl (congrArg Value.bool hbb6) ?_
        refine At.wpcL #[true, true, true, true, true, true, true, true, true, true, true, true, true, true, true, true, true, true, true, false, false, false, false, false, false, false, false, false, false, false, false, false, false, false, false, false, false, false, false, false, false, false, false, false, false, false, false, false, false, false, false, false, false, false, false, false] (by kernel_rfl) ?_
        refine At.wpcS (i := 19) (d := 88) (.bool false) (by kernel_rfl) rfl rfl rfl (fun Lx => ?_) ?_
        · skip
          refine At.pickF rfl rfl rfl ?_
          refine At.ops0 ?_
          exact fun a ha => ⟨ha, rfl⟩
        refine At.wpcL #[true, true, true, true, true, true, true, true, true, true, true, true, true, true, true, true, true, true, true, true, false, false, false, false, false, false, false, false, false, false, false, false, false, false, false, false, false, false, false, false, false, false, false, false, false, false, false, false, false, false, false, false, false, false, false, false] (by kernel_rfl) ?_
        refine At.wpcS (i := 20) (d := 89) (.bool false) (by kernel_rfl) rfl rfl rfl (fun Lx => ?_) ?_
        · skip
          refine At.move rfl rfl ?_
          refine At.ops0 ?_
          exact fun a ha => ⟨ha, rfl⟩
        refine At.wpcL #[true, true, true, true, true, true, true, true, true, true, true, true, true, true, true, true, true, true, true, true, true, false, false, false, false, false, false, false, false, false, false, false, false, false, false, false, false, false, false, false, false, false, false, false, false, false, false, false, false, false, false, false, false, false, false, false] (by kernel_rfl) ?_
        refine At.wpcS (i := 21) (d := 90) ((takeV v (min l.length 3000))) (by kernel_rfl) rfl rfl rfl (fun Lx => ?_) ?_
        · skip
          refine At.yes rfl rfl rfl rfl ?_
          refine At.move rfl rfl ?_
          refine At.ops0 ?_
          exact fun a ha => ⟨ha, rfl⟩
        refine At.wpcL #[true, true, true, true, true, true, true, true, true, true, true, true, true, true, true, true, true, true, true, true, true, true, false, false, false, false, false, false, false, false, false, false, false, false, false, false, false, false, false, false, false, false, false, false, false, false, false, false, false, false, false, false, false, false, false, false] (by kernel_rfl) ?_
        refine At.wpcS (i := 22) (d := 91) (.pointer (some ⟨b2, 0 + 3, none⟩)) (by kernel_rfl) rfl rfl rfl (fun Lx => ?_) ?_
        · skip
          refine At.yes rfl rfl rfl rfl ?_
          refine At.fieldAddr rfl fo31_3 rfl ?_
          refine At.ops0 ?_
          exact fun a ha => ⟨ha, rfl⟩
        refine At.wpcL #[true, true, true, true, true, true, true, true, true, true, true, true, true, true, true, true, true, true, true, true, true, true, true, false, false, false, false, false, false, false, false, false, false, false, false, false, false, false, false, false, false, false, false, false, false, false, false, false, false, false, false, false, false, false, false, false] (by kernel_rfl) ?_
        refine At.wpcS (i := 23) (d := 92) (.int .i64 (p : Int)) (by kernel_rfl) rfl rfl rfl (fun Lx => ?_) ?_
        · skip
          refine At.yes rfl rfl rfl rfl ?_
          refine At.load rfl (Ld.ownCell ag3 hb2 ((((fun u _ => tk_ok u)) (Tk.put x p) (List.mem_of_getElem? hx'))).c3) rfl ?_
          refine At.ops0 ?_
          exact fun a ha => ⟨ha, rfl⟩
        refine At.wpcL #[true, true, true, true, true, true, true, true, true, true, true, true, true, true, true, true, true, true, true, true, true, true, true, true, false, false, false, false, false, false, false, false, false, false, false, false, false, false, false, false, false, false, false, false, false, false, false, false, false, false, false, false, false, false, false, false] (by kernel_rfl) ?_
        refine At.wpcS (i := 24) (d := 93) (.pointer (some ⟨b2, 0 + 3, none⟩)) (by kernel_rfl) rfl rfl rfl (fun Lx => ?_) ?_
        · skip
          refine At.yes rfl rfl rfl rfl ?_
          refine At.fieldAddr rfl fo31_3 rfl ?_
          refine At.ops0 ?_
          exact fun a ha => ⟨ha, rfl⟩
        refine At.wpcL #[true, true, true, true, true, true, true, true, true, true, true, true, true, true, true, true, true, true, true, true, true, true, true, true, true, false, false, false, false, false, false, false, false, false, false, false, false, false, false, false, false, false, false, false, false, false, false, false, false, false, false, false, false, false, false, false] (by kernel_rfl) ?_
        refine At.wpcS (i := 25) (d := 94) (.int .i64 (p : Int)) (by kernel_rfl) rfl rfl rfl (fun Lx => ?_) ?_
        · skip
          refine At.yes rfl rfl rfl rfl ?_
          refine At.load rfl (Ld.ownCell ag3 hb2 ((((fun u _ => tk_ok u)) (Tk.put x p) (List.mem_of_getElem? hx'))).c3) rfl ?_
          refine At.ops0 ?_
          exact fun a ha => ⟨ha, rfl⟩
        refine At.wpcL #[true, true, true, true, true, true, true, true, true, true, true, true, true, true, true, true, true, true, true, true, true, true, true, true, true, true, false, false, false, false, false, false, false, false, false, false, false, false, false, false, false, false, false, false, false, false, false, false, false, false, false, false, false, false, false, false] (by kernel_rfl) ?_
        refine At.wpcS (i := 26) (d := 95) (.pointer (some ⟨b2, 0 + 1, none⟩)) (by kernel_rfl) rfl rfl rfl (fun Lx => ?_) ?_
        · skip
          refine At.yes rfl rfl rfl rfl ?_
          refine At.fieldAddr rfl fo31_1 rfl ?_
          refine At.ops0 ?_
          exact fun a ha => ⟨ha, rfl⟩
        refine At.wpcL #[true, true, true, true, true, true, true, true, true, true, true, true, true, true, true, true, true, true, true, true, true, true, true, true, true, true, true, false, false, false, false, false, false, false, false, false, false, false, false, false, false, false, false, false, false, false, false, false, false, false, false, false, false, false, false, false] (by kernel_rfl) ?_
        refine At.wpcS (i := 27) (d := 96) (.string (bs ((Tk.put x p).t))) (by kernel_rfl) rfl rfl rfl (fun Lx => ?_) ?_
        · skip
          refine At.yes rfl rfl rfl rfl ?_
          refine At.load rfl (Ld.ownCell ag9 hb2 ((((fun u _ => tk_ok u)) (Tk.put x p) (List.mem_of_getElem? hx'))).c1) rfl ?_
          refine At.ops0 ?_
          exact fun a ha => ⟨ha, rfl⟩
        refine At.wpcL #[true, true, true, true, true, true, true, true, true, true, true, true, true, true, true, true, true, true, true, true, true, true, true, true, true, true, true, true, false, false, false, false, false, false, false, false, false, false, false, false, false, false, false, false, false, false, false, false, false, false, false, false, false, false, false, false] (by kernel_rfl) ?_
        refine At.wpcS (i := 28) (d := 97) (.int .i64 ((Tk.put x p).t.length : Int)) (by kernel_rfl) rfl rfl rfl (fun Lx => ?_) ?_
        · skip
          refine At.yes rfl rfl rfl rfl ?_
          refine At.lenB (l := (Tk.put x p).t) rfl st9 rfl ?_
          refine At.ops0 ?_
          exact fun a ha => ⟨ha, rfl⟩
        refine At.wpcL #[true, true, true, true, true, true, true, true, true, true, true, true, true, true, true, true, true, true, true, true, true, true, true, true, true, true, true, true, true, false, false, false, false, false, false, false, false, false, false, false, false, false, false, false, false, false, false, false, false, false, false, false, false, false, false, false] (by kernel_rfl) ?_
        refine At.wpcS (i := 29) (d := 98) (.int .i64 ((p : Int) + ((Tk.put x p).t.length : Int))) (by kernel_rfl) rfl rfl rfl (fun Lx => ?_) ?_
        · skip
          refine At.yes rfl rfl rfl rfl ?_
          refine At.addI rfl rfl rfl (by omega) ?_
          refine At.ops0 ?_
          exact fun a ha => ⟨ha, rfl⟩
        refine At.wpcL #[true, true, true, true, true, true, true, true, true, true, true, true, true, true, true, true, true, true, true, true, true, true, true, true, true, true, true, true, true, true, false, false, false, false, false, false, false, false, false, false, false, false, false, false, false, false, false, false, false, false, false, false, false, false, false, false] (by kernel_rfl) ?_
        refine At.wpcS (i := 30) (d := 99) ((takeV (dropV 1 (takeV v (min l.length 3000)) p) ((p + (Tk.put x p).t.length) - p))) (by kernel_rfl) rfl rfl rfl (fun Lx => ?_) ?_
        · skip
          refine At.yes rfl rfl rfl rfl ?_
          refine At.sliceLH (lo := p) (hi := (p + (Tk.put x p).t.length)) rfl rfl rfl (BytesAt.ok (BytesAt.eqL (BytesAt.take hv hle1) hS1)) el22 sz5 (by omega) (by omega) rfl ?_
          refine At.ops0 ?_
          exact fun a ha => ⟨ha, rfl⟩
        refine At.wpcL #[true, true, true, true, true, true, true, true, true, true, true, true, true, true, true, true, true, true, true, true, true, true, true, true, true, true, true, true, true, true, true, false, false, false, false, false, false, false, false, false, false, false, false, false, false, false, false, false, false, false, false, false, false, false, false, false] (by kernel_rfl) ?_
        refine At.wpcS (i := 31) (d := 100) (.string (bs ((Tk.put x p).t))) (by kernel_rfl) rfl rfl rfl (fun Lx => ?_) ?_
        · skip
          refine At.yes rfl rfl rfl rfl ?_
          refine At.ofBytes (l := (Tk.put x p).t) rfl (BytesAt.keep (BytesAt.eqL (BytesAt.part (BytesAt.eqL (BytesAt.take hv hle1) hS1) (lo := p) (hi := (p + (Tk.put x p).t.length)) (by omega) (by omega)) (by rw [Nat.add_sub_cancel_left]; exact hxb)) hB) el22 ik5 st9 rfl ?_
          refine At.ops0 ?_
          exact fun a ha => ⟨ha, rfl⟩
        refine At.wpcL #[true, true, true, true, true, true, true, true, true, true, true, true, true, true, true, true, true, true, true, true, true, true, true, true, true, true, true, true, true, true, true, true, false, false, false, false, false, false, false, false, false, false, false, false, false, false, false, false, false, false, false, false, false, false, false, false] (by kernel_rfl) ?_
        refine At.wpcS (i := 32) (d := 101) (.pointer (some ⟨b2, 0 + 1, none⟩)) (by kernel_rfl) rfl rfl rfl (fun Lx => ?_) ?_
        · skip
          refine At.yes rfl rfl rfl rfl ?_
          refine At.fieldAddr rfl fo31_1 rfl ?_
          refine At.ops0 ?_
          exact fun a ha => ⟨ha, rfl⟩
        refine At.wpcL #[true, true, true, true, true, true, true, true, true, true, true, true, true, true, true, true, true, true, true, true, true, true, true, true, true, true, true, true, true, true, true, true, true, false, false, false, false, false, false, false, false, false, false, false, false, false, false, false, false, false, false, false, false, false, false, false] (by kernel_rfl) ?_
        refine At.wpcS (i := 33) (d := 102) (.string (bs ((Tk.put x p).t))) (by kernel_rfl) rfl rfl rfl (fun Lx => ?_) ?_
        · skip
          refine At.yes rfl rfl rfl rfl ?_
          refine At.load rfl (Ld.ownCell ag9 hb2 ((((fun u _ => tk_ok u)) (Tk.put x p) (List.mem_of_getElem? hx'))).c1) rfl ?_
          refine At.ops0 ?_
          exact fun a ha => ⟨ha, rfl⟩
        refine At.wpcL #[true, true, true, true, true, true, true, true, true, true, true, true, true, true, true, true, true, true, true, true, true, true, true, true, true, true, true, true, true, true, true, true, true, true, false, false, false, false, false, false, false, false, false, false, false, false, false, false, false, false, false, false, false, false, false, false] (by kernel_rfl) ?_
        refine At.wpcS (i := 34) (d := 103) (.bool (!decide ((Tk.put x p).t = (Tk.put x p).t))) (by kernel_rfl) rfl rfl rfl (fun Lx => ?_) ?_
        · skip
          refine At.yes rfl rfl rfl rfl ?_
          refine At.neB' (a := (Tk.put x p).t) (b := (Tk.put x p).t) rfl rfl rfl ?_
          refine At.ops0 ?_
          exact fun a ha => ⟨ha, rfl⟩
        refine At.set (d := 103) (u := .bool false) rfl (congrArg Value.bool hbb7) ?_
        refine At.wpcL #[true, true, true, true, true, true, true, true, true, true, true, true, true, true, true, true, true, true, true, true, true, true, true, true, true, true, true, true, true, true, true, true, true, true, true, false, false, false, false, false, false, false, false, false, false, false, false, false, false, false, false, false, false, false, false, false] (by kernel_rfl) ?_
        refine At.wpcS (i := 35) (d := 104) (.bool false) (by kernel_rfl) rfl rfl rfl (fun Lx => ?_) ?_
        · skip
          refine At.pickF rfl rfl rfl ?_
          refine At.ops0 ?_
          exact fun a ha => ⟨ha, rfl⟩
        refine At.wpcL #[true, true, true, true, true, true, true, true, true, true, true, true, true, true, true, true, true, true, true, true, true, true, true, true, true, true, true, true, true, true, true, true, true, true, true, true, false, false, false, false, false, false, false, false, false, false, false, false, false, false, false, false, false, false, false, false] (by kernel_rfl) ?_
        refine At.wpcS (i := 36) (d := 105) (.bool false) (by kernel_rfl) rfl rfl rfl (fun Lx => ?_) ?_
        · skip
          refine At.move rfl rfl ?_
          refine At.ops0 ?_
          exact fun a ha => ⟨ha, rfl⟩
        refine At.wpcL #[true, true, true, true, true, true, true, true, true, true, true, true, true, true, true, true, true, true, true, true, true, true, true, true, true, true, true, true, true, true, true, true, true, true, true, true, true, false, false, false, false, false, false, false, false, false, false, false, false, false, false, false, false, false, false, false] (by kernel_rfl) ?_
        refine At.wpcS (i := 37) (d := 106) (.pointer (some ⟨b2, 0 + 0, none⟩)) (by kernel_rfl) rfl rfl rfl (fun Lx => ?_) ?_
        · skip
          refine At.yes rfl rfl rfl rfl ?_
          refine At.fieldAddr rfl fo31_0 rfl ?_
          refine At.ops0 ?_
          exact fun a ha => ⟨ha, rfl⟩
        refine At.wpcL #[true, true, true, true, true, true, true, true, true, true, true, true, true, true, true, true, true, true, true, true, true, true, true, true, true, true, true, true, true, true, true, true, true, true, true, true, true, true, false, false, false, false, false, false, false, false, false, false, false, false, false, false, false, false, false, false] (by kernel_rfl) ?_
        refine At.wpcS (i := 38) (d := 107) (.int .i64 ((Tk.put x p).k)) (by kernel_rfl) rfl rfl rfl (fun Lx => ?_) ?_
        · skip
          refine At.yes rfl rfl rfl rfl ?_
          refine At.load rfl (Ld.ownCell ag3 hb2 ((((fun u _ => tk_ok u)) (Tk.put x p) (List.mem_of_getElem? hx'))).c0) rfl ?_
          refine At.ops0 ?_
          exact fun a ha => ⟨ha, rfl⟩
        refine At.wpcL #[true, true, true, true, true, true, true, true, true, true, true, true, true, true, true, true, true, true, true, true, true, true, true, true, true, true, true, true, true, true, true, true, true, true, true, true, true, true, true, false, false, false, false, false, false, false, false, false, false, false, false, false, false, false, false, false] (by kernel_rfl) ?_
        refine At.wpcS (i := 39) (d := 108) (.bool (decide ((Tk.put x p).k < 1))) (by kernel_rfl) rfl rfl rfl (fun Lx => ?_) ?_
        · skip
          refine At.yes rfl rfl rfl rfl ?_
          refine At.lss rfl rfl rfl ?_
          refine At.ops0 ?_
          exact fun a ha => ⟨ha, rfl⟩
        refine At.set (d := 108) (u := .bool false) rfl (congrArg Value.bool hbb8) ?_
        refine At.wpcL #[true, true, true, true, true, true, true, true, true, true, true, true, true, true, true, true, true, true, true, true, true, true, true, true, true, true, true, true, true, true, true, true, true, true, true, true, true, true, true, true, false, false, false, false, false, false, false, false, false, false, false, false, false, false, false, false] (by kernel_rfl) ?_
        refine At.wpcS (i := 40) (d := 109) (.bool false) (by kernel_rfl) rfl rfl rfl (fun Lx => ?_) ?_
        · skip
          refine At.pickF rfl rfl rfl ?_
          refine At.ops0 ?_
          exact fun a ha => ⟨ha, rfl⟩
        refine At.wpcL #[true, true, true, true, true, true, true, true, true, true, true, true, true, true, true, true, true, true, true, true, true, true, true, true, true, true, true, true, true, true, true, true, true, true, true, true, true, true, true, true, true, false, false, false, false, false, false, false, false, false, false, false, false, false, false, false] (by kernel_rfl) ?_
        refine At.wpcS (i := 41) (d := 110) (.bool false) (by kernel_rfl) rfl rfl rfl (fun Lx => ?_) ?_
        · skip
          refine At.move rfl rfl ?_
          refine At.ops0 ?_
          exact fun a ha => ⟨ha, rfl⟩
        refine At.wpcL #[true, true, true, true, true, true, true, true, true, true, true, true, true, true, true, true, true, true, true, true, true, true, true, true, true, true, true, true, true, true, true, true, true, true, true, true, true, true, true, true, true, true, false, false, false, false, false, false, false, false, false, false, false, false, false, false] (by kernel_rfl) ?_
        refine At.wpcS (i := 42) (d := 111) (.pointer (some ⟨b2, 0 + 0, none⟩)) (by kernel_rfl) rfl rfl rfl (fun Lx => ?_) ?_
        · skip
          refine At.yes rfl rfl rfl rfl ?_
          refine At.fieldAddr rfl fo31_0 rfl ?_
          refine At.ops0 ?_
          exact fun a ha => ⟨ha, rfl⟩
        refine At.wpcL #[true, true, true, true, true, true, true, true, true, true, true, true, true, true, true, true, true, true, true, true, true, true, true, true, true, true, true, true, true, true, true, true, true, true, true, true, true, true, true, true, true, true, true, false, false, false, false, false, false, false, false, false, false, false, false, false] (by kernel_rfl) ?_
        refine At.wpcS (i := 43) (d := 112) (.int .i64 ((Tk.put x p).k)) (by kernel_rfl) rfl rfl rfl (fun Lx => ?_) ?_
        · skip
          refine At.yes rfl rfl rfl rfl ?_
          refine At.load rfl (Ld.ownCell ag3 hb2 ((((fun u _ => tk_ok u)) (Tk.put x p) (List.mem_of_getElem? hx'))).c0) rfl ?_
          refine At.ops0 ?_
          exact fun a ha => ⟨ha, rfl⟩
        refine At.wpcL #[true, true, true, true, true, true, true, true, true, true, true, true, true, true, true, true, true, true, true, true, true, true, true, true, true, true, true, true, true, true, true, true, true, true, true, true, true, true, true, true, true, true, true, true, false, false, false, false, false, false, false, false, false, false, false, false] (by kernel_rfl) ?_
        refine At.wpcS (i := 44) (d := 113) (.bool (decide (6 < (Tk.put x p).k))) (by kernel_rfl) rfl rfl rfl (fun Lx => ?_) ?_
        · skip
          refine At.yes rfl rfl rfl rfl ?_
          refine At.gtr rfl rfl rfl ?_
          refine At.ops0 ?_
          exact fun a ha => ⟨ha, rfl⟩
        refine At.set (d := 113) (u := .bool false) rfl (congrArg Value.bool hbb9) ?_
        refine At.wpcL #[true, true, true, true, true, true, true, true, true, true, true, true, true, true, true, true, true, true, true, true, true, true, true, true, true, true, true, true, true, true, true, true, true, true, true, true, true, true, true, true, true, true, true, true, true, false, false, false, false, false, false, false, false, false, false, false] (by kernel_rfl) ?_
        refine At.wpcS (i := 45) (d := 114) (.bool false) (by kernel_rfl) rfl rfl rfl (fun Lx => ?_) ?_
        · skip
          refine At.pickF rfl rfl rfl ?_
          refine At.ops0 ?_
          exact fun a ha => ⟨ha, rfl⟩
        refine At.wpcL #[true, true, true, true, true, true, true, true, true, true, true, true, true, true, true, true, true, true, true, true, true, true, true, true, true, true, true, true, true, true, true, true, true, true, true, true, true, true, true, true, true, true, true, true, true, true, false, false, false, false, false, false, false, false, false, false] (by kernel_rfl) ?_
        refine At.wpcS (i := 46) (d := 115) (.bool false) (by kernel_rfl) rfl rfl rfl (fun Lx => ?_) ?_
        · skip
          refine At.move rfl rfl ?_
          refine At.ops0 ?_
          exact fun a ha => ⟨ha, rfl⟩
        refine At.wpcL #[true, true, true, true, true, true, true, true, true, true, true, true, true, true, true, true, true, true, true, true, true, true, true, true, true, true, true, true, true, true, true, true, true, true, true, true, true, true, true, true, true, true, true, true, true, true, true, false, false, false, false, false, false, false, false, false] (by kernel_rfl) ?_
        refine At.wpcS (i := 47) (d := 116) (.pointer (some ⟨b2, 0 + 0, none⟩)) (by kernel_rfl) rfl rfl rfl (fun Lx => ?_) ?_
        · skip
          refine At.yes rfl rfl rfl rfl ?_
          refine At.fieldAddr rfl fo31_0 rfl ?_
          refine At.ops0 ?_
          exact fun a ha => ⟨ha, rfl⟩
        refine At.wpcL #[true, true, true, true, true, true, true, true, true, true, true, true, true, true, true, true, true, true, true, true, true, true, true, true, true, true, true, true, true, true, true, true, true, true, true, true, true, true, true, true, true, true, true, true, true, true, true, true, false, false, false, false, false, false, false, false] (by kernel_rfl) ?_
        refine At.wpcS (i := 48) (d := 117) (.int .i64 ((Tk.put x p).k)) (by kernel_rfl) rfl rfl rfl (fun Lx => ?_) ?_
        · skip
          refine At.yes rfl rfl rfl rfl ?_
          refine At.load rfl (Ld.ownCell ag3 hb2 ((((fun u _ => tk_ok u)) (Tk.put x p) (List.mem_of_getElem? hx'))).c0) rfl ?_
          refine At.ops0 ?_
          exact fun a ha => ⟨ha, rfl⟩
        refine At.wpcL #[true, true, true, true, true, true, true, true, true, true, true, true, true, true, true, true, true, true, true, true, true, true, true, true, true, true, true, true, true, true, true, true, true, true, true, true, true, true, true, true, true, true, true, true, true, true, true, true, true, false, false, false, false, false, false, false] (by kernel_rfl) ?_
        refine At.wpcS (i := 49) (d := 118) (.bool (!decide ((Tk.put x p).k = 1))) (by kernel_rfl) rfl rfl rfl (fun Lx => ?_) ?_
        · skip
          refine At.yes rfl rfl rfl rfl ?_
          refine At.neI rfl rfl rfl ?_
          refine At.ops0 ?_
          exact fun a ha => ⟨ha, rfl⟩
        refine At.set (d := 118) (u := .bool true) rfl (congrArg Value.bool hg1) ?_
        refine At.wpcL #[true, true, true, true, true, true, true, true, true, true, true, true, true, true, true, true, true, true, true, true, true, true, true, true, true, true, true, true, true, true, true, true, true, true, true, true, true, true, true, true, true, true, true, true, true, true, true, true, true, true, false, false, false, false, false, false] (by kernel_rfl) ?_
        refine At.wpcS (i := 50) (d := 119) (.bool true) (by kernel_rfl) rfl rfl rfl (fun Lx => ?_) ?_
        · skip
          refine At.yes rfl rfl rfl rfl ?_
          refine At.move rfl rfl ?_
          refine At.ops0 ?_
          exact fun a ha => ⟨ha, rfl⟩
        refine At.wpcL #[true, true, true, true, true, true, true, true, true, true, true, true, true, true, true, true, true, true, true, true, true, true, true, true, true, true, true, true, true, true, true, true, true, true, true, true, true, true, true, true, true, true, true, true, true, true, true, true, true, true, true, false, false, false, false, false] (by kernel_rfl) ?_
        refine At.wpcS (i := 51) (d := 120) (.pointer (some ⟨b2, 0 + 2, none⟩)) (by kernel_rfl) rfl rfl rfl (fun Lx => ?_) ?_
        · skip
          refine At.yes rfl rfl rfl rfl ?_
          refine At.fieldAddr rfl fo31_2 rfl ?_
          refine At.ops0 ?_
          exact fun a ha => ⟨ha, rfl⟩
        refine At.wpcL #[true, true, true, true, true, true, true, true, true, true, true, true, true, true, true, true, true, true, true, true, true, true, true, true, true, true, true, true, true, true, true, true, true, true, true, true, true, true, true, true, true, true, true, true, true, true, true, true, true, true, true, true, false, false, false, false] (by kernel_rfl) ?_
        refine At.wpcS (i := 52) (d := 121) (.int .i64 ((Tk.put x p).n)) (by kernel_rfl) rfl rfl rfl (fun Lx => ?_) ?_
        · skip
          refine At.yes rfl rfl rfl rfl ?_
          refine At.load rfl (Ld.ownCell ag3 hb2 ((((fun u _ => tk_ok u)) (Tk.put x p) (List.mem_of_getElem? hx'))).c2) rfl ?_
          refine At.ops0 ?_
          exact fun a ha => ⟨ha, rfl⟩
        refine At.wpcL #[true, true, true, true, true, true, true, true, true, true, true, true, true, true, true, true, true, true, true, true, true, true, true, true, true, true, true, true, true, true, true, true, true, true, true, true, true, true, true, true, true, true, true, true, true, true, true, true, true, true, true, true, true, false, false, false] (by kernel_rfl) ?_
        refine At.wpcS (i := 53) (d := 122) (.bool (!decide ((Tk.put x p).n = 0))) (by kernel_rfl) rfl rfl rfl (fun Lx => ?_) ?_
        · skip
          refine At.yes rfl rfl rfl rfl ?_
          refine At.neI rfl rfl rfl ?_
          refine At.ops0 ?_
          exact fun a ha => ⟨ha, rfl⟩
        refine At.wpcL #[true, true, true, true, true, true, true, true, true, true, true, true, true, true, true, true, true, true, true, true, true, true, true, true, true, true, true, true, true, true, true, true, true, true, true, true, true, true, true, true, true, true, true, true, true, true, true, true, true, true, true, true, true, true, false, false] (by kernel_rfl) ?_
        refine At.wpcS (i := 54) (d := 123) (.bool (!decide ((Tk.put x p).n = 0))) (by kernel_rfl) rfl rfl rfl (fun Lx => ?_) ?_
        · skip
          refine At.yes rfl rfl rfl rfl ?_
          refine At.pickT rfl rfl rfl ?_
          refine At.ops0 ?_
          exact fun a ha => ⟨ha, rfl⟩
        refine At.wpcL #[true, true, true, true, true, true, true, true, true, true, true, true, true, true, true, true, true, true, true, true, true, true, true, true, true, true, true, true, true, true, true, true, true, true, true, true, true, true, true, true, true, true, true, true, true, true, true, true, true, true, true, true, true, true, true, false] (by kernel_rfl) ?_
        refine At.wpcS (i := 55) (d := 124) (.bool (!decide ((Tk.put x p).n = 0))) (by kernel_rfl) rfl rfl rfl (fun Lx => ?_) ?_
        · skip
          refine At.pickF rfl rfl rfl ?_
          refine At.ops0 ?_
          exact fun a ha => ⟨ha, rfl⟩
        refine At.wpcZ ?_
        refine At.thenN ?_
        have hb : ((!decide ((Tk.put x p).n = 0))) = false := by rw [decide_eq_true (hxz (by assumption))]; rfl
        refine At.set (d := 124) (u := .bool false) rfl (congrArg Value.bool hb) ?_
        refine At.condF rfl ?_
        refine At.skip ?_
        refine At.thenN ?_
        refine At.region ?_
        refine At.fieldAddr rfl fo31_3 rfl ?_
        refine At.load rfl (Ld.ownCell ag3 hb2 ((((fun u _ => tk_ok u)) (Tk.put x p) (List.mem_of_getElem? hx'))).c3) rfl ?_
        refine At.set (d := 126) (u := .int .i64 (p : Int)) rfl (congrArg (Value.int .i64) rfl) ?_
        refine At.fieldAddr rfl fo31_1 rfl ?_
        refine At.load rfl (Ld.ownCell ag9 hb2 ((((fun u _ => tk_ok u)) (Tk.put x p) (List.mem_of_getElem? hx'))).c1) rfl ?_
        refine At.lenB (l := (Tk.put x p).t) rfl st9 rfl ?_
        refine At.addI rfl rfl rfl (by omega) ?_
        refine At.assign rfl rfl ?_
        refine At.ops0 ?_
        refine At.inN ?_
        refine At.thenN ?_
        refine At.region ?_
        refine At.move rfl rfl ?_
        refine At.addI rfl rfl rfl (by omega) ?_
        refine At.assign rfl rfl ?_
        refine At.ops0 ?_
        refine At.thenN ?_
        exact fun act_ hact_ => ⟨((k + 1), (p + (Tk.put x p).t.length)), hact_.sub (Sub.cons rfl (Sub.cons rfl (Sub.cons rfl (Sub.cons rfl (Sub.cons rfl (Sub.cons rfl (Sub.cons rfl Sub.nil))))))), ⟨hB, hO1, (by omega), (hxr)⟩, by first | omega | (dsimp only; omega)⟩
      · skip
        have hg1' := hg1; simp only [Bool.not_eq_true', Bool.not_eq_false', decide_eq_true_eq, decide_eq_false_iff_not] at hg1'
        refine At.drawG (n := 56) mixed (by kernel_rfl) rfl (PanicOk.then (PanicOk.then (PanicOk.block (PanicOk.then (PanicOk.then (PanicOk.block (PanicOk.then PanicOk.body))))))) ?_
        have hB := Below.drewB hB
        have hb2 : _ := (show w9.drew.heap[b2]? = _ from hb2)
        have hO1 := hO1.drew
        refine At.wpcL #[false, false, false, false, false, false, false, false, false, false, false, false, false, false, false, false, false, false, false, false, false, false, false, false, false, false, false, false, false, false, false, false, false, false, false, false, false, false, false, false, false, false, false, false, false, false, false, false, false, false, false, false, false, false, false, false] (by kernel_rfl) ?_
        refine At.wpcS (i := 0) (d := 69) (.pointer (some ⟨b2, 0 + 3, none⟩)) (by kernel_rfl) rfl rfl rfl (fun Lx => ?_) ?_
        · skip
          refine At.fieldAddr rfl fo31_3 rfl ?_
          refine At.ops0 ?_
          exact fun a ha => ⟨ha, rfl⟩
        refine At.wpcL #[true, false, false, false, false, false, false, false, false, false, false, false, false, false, false, false, false, false, false, false, false, false, false, false, false, false, false, false, false, false, false, false, false, false, false, false, false, false, false, false, false, false, false, false, false, false, false, false, false, false, false, false, false, false, false, false] (by kernel_rfl) ?_
        refine At.wpcS (i := 1) (d := 70) (.int .i64 (p : Int)) (by kernel_rfl) rfl rfl rfl (fun Lx => ?_) ?_
        · skip
          refine At.load rfl (Ld.ownCell ag3 hb2 ((((fun u _ => tk_ok u)) (Tk.put x p) (List.mem_of_getElem? hx'))).c3) rfl ?_
          refine At.ops0 ?_
          exact fun a ha => ⟨ha, rfl⟩
        refine At.wpcL #[true, true, false, false, false, false, false, false, false, false, false, false, false, false, false, false, false, false, false, false, false, false, false, false, false, false, false, false, false, false, false, false, false, false, false, false, false, false, false, false, false, false, false, false, false, false, false, false, false, false, false, false, false, false, false, false] (by kernel_rfl) ?_
        refine At.wpcS (i := 2) (d := 71) (.int .i64 (e0 : Int)) (by kernel_rfl) rfl rfl rfl (fun Lx => ?_) ?_
        · skip
          refine At.move rfl rfl ?_
          refine At.ops0 ?_
          exact fun a ha => ⟨ha, rfl⟩
        refine At.wpcL #[true, true, true, false, false, false, false, false, false, false, false, false, false, false, false, false, false, false, false, false, false, false, false, false, false, false, false, false, false, false, false, false, false, false, false, false, false, false, false, false, false, false, false, false, false, false, false, false, false, false, false, false, false, false, false, false] (by kernel_rfl) ?_
        refine At.wpcS (i := 3) (d := 72) (.bool (decide ((p : Int) < (e0 : Int)))) (by kernel_rfl) rfl rfl rfl (fun Lx => ?_) ?_
        · skip
          refine At.lss rfl rfl rfl ?_
          refine At.ops0 ?_
          exact fun a ha => ⟨ha, rfl⟩
        refine At.set (d := 72) (u := .bool false) rfl (congrArg Value.bool hbb4) ?_
        refine At.wpcL #[true, true, true, true, false, false, false, false, false, false, false, false, false, false, false, false, false, false, false, false, false, false, false, false, false, false, false, false, false, false, false, false, false, false, false, false, false, false, false, false, false, false, false, false, false, false, false, false, false, false, false, false, false, false, false, false] (by kernel_rfl) ?_
        refine At.wpcS (i := 4) (d := 73) (.bool false) (by kernel_rfl) rfl rfl rfl (fun Lx => ?_) ?_
        · skip
          refine At.move rfl rfl ?_
          refine At.ops0 ?_
          exact fun a ha => ⟨ha, rfl⟩
        refine At.wpcL #[true, true, true, true, true, false, false, false, false, false, false, false, false, false, false, false, false, false, false, false, false, false, false, false, false, false, false, false, false, false, false, false, false, false, false, false, false, false, false, false, false, false, false, false, false, false, false, false, false, false, false, false, false, false, false, false] (by kernel_rfl) ?_
        refine At.wpcS (i := 5) (d := 74) (.pointer (some ⟨b2, 0 + 1, none⟩)) (by kernel_rfl) rfl rfl rfl (fun Lx => ?_) ?_
        · skip
          refine At.yes rfl rfl rfl rfl ?_
          refine At.fieldAddr rfl fo31_1 rfl ?_
          refine At.ops0 ?_
          exact fun a ha => ⟨ha, rfl⟩
        refine At.wpcL #[true, true, true, true, true, true, false, false, false, false, false, false, false, false, false, false, false, false, false, false, false, false, false, false, false, false, false, false, false, false, false, false, false, false, false, false, false, false, false, false, false, false, false, false, false, false, false, false, false, false, false, false, false, false, false, false] (by kernel_rfl) ?_
        refine At.wpcS (i := 6) (d := 75) (.string (bs ((Tk.put x p).t))) (by kernel_rfl) rfl rfl rfl (fun Lx => ?_) ?_
        · skip
          refine At.yes rfl rfl rfl rfl ?_
          refine At.load rfl (Ld.ownCell ag9 hb2 ((((fun u _ => tk_ok u)) (Tk.put x p) (List.mem_of_getElem? hx'))).c1) rfl ?_
          refine At.ops0 ?_
          exact fun a ha => ⟨ha, rfl⟩
        refine At.wpcL #[true, true, true, true, true, true, true, false, false, false, false, false, false, false, false, false, false, false, false, false, false, false, false, false, false, false, false, false, false, false, false, false, false, false, false, false, false, false, false, false, false, false, false, false, false, false, false, false, false, false, false, false, false, false, false, false] (by kernel_rfl) ?_
        refine At.wpcS (i := 7) (d := 76) (.bool (decide ((Tk.put x p).t = ([] : List UInt8)))) (by kernel_rfl) rfl rfl rfl (fun Lx => ?_) ?_
        · skip
          refine At.yes rfl rfl rfl rfl ?_
          refine At.eqB' (a := (Tk.put x p).t) (b := ([] : List UInt8)) rfl rfl rfl ?_
          refine At.ops0 ?_
          exact fun a ha => ⟨ha, rfl⟩
        refine At.set (d := 76) (u := .bool false) rfl (congrArg Value.bool hbb5) ?_
        refine At.wpcL #[true, true, true, true, true, true, true, true, false, false, false, false, false, false, false, false, false, false, false, false, false, false, false, false, false, false, false, false, false, false, false, false, false, false, false, false, false, false, false, false, false, false, false, false, false, false, false, false, false, false, false, false, false, false, false, false] (by kernel_rfl) ?_
        refine At.wpcS (i := 8) (d := 77) (.bool false) (by kernel_rfl) rfl rfl rfl (fun Lx => ?_) ?_
        · skip
          refine At.pickF rfl rfl rfl ?_
          refine At.ops0 ?_
          exact fun a ha => ⟨ha, rfl⟩
        refine At.wpcL #[true, true, true, true, true, true, true, true, true, false, false, false, false, false, false, false, false, false, false, false, false, false, false, false, false, false, false, false, false, false, false, false, false, false, false, false, false, false, false, false, false, false, false, false, false, false, false, false, false, false, false, false, false, false, false, false] (by kernel_rfl) ?_
        refine At.wpcS (i := 9) (d := 78) (.bool false) (by kernel_rfl) rfl rfl rfl (fun Lx => ?_) ?_
        · skip
          refine At.move rfl rfl ?_
          refine At.ops0 ?_
          exact fun a ha => ⟨ha, rfl⟩
        refine At.wpcL #[true, true, true, true, true, true, true, true, true, true, false, false, false, false, false, false, false, false, false, false, false, false, false, false, false, false, false, false, false, false, false, false, false, false, false, false, false, false, false, false, false, false, false, false, false, false, false, false, false, false, false, false, false, false, false, false] (by kernel_rfl) ?_
        refine At.wpcS (i := 10) (d := 79) (.pointer (some ⟨b2, 0 + 3, none⟩)) (by kernel_rfl) rfl rfl rfl (fun Lx => ?_) ?_
        · skip
          refine At.yes rfl rfl rfl rfl ?_
          refine At.fieldAddr rfl fo31_3 rfl ?_
          refine At.ops0 ?_
          exact fun a ha => ⟨ha, rfl⟩
        refine At.wpcL #[true, true, true, true, true, true, true, true, true, true, true, false, false, false, false, false, false, false, false, false, false, false, false, false, false, false, false, false, false, false, false, false, false, false, false, false, false, false, false, false, false, false, false, false, false, false, false, false, false, false, false, false, false, false, false, false] (by kernel_rfl) ?_
        refine At.wpcS (i := 11) (d := 80) (.int .i64 (p : Int)) (by kernel_rfl) rfl rfl rfl (fun Lx => ?_) ?_
        · skip
          refine At.yes rfl rfl rfl rfl ?_
          refine At.load rfl (Ld.ownCell ag3 hb2 ((((fun u _ => tk_ok u)) (Tk.put x p) (List.mem_of_getElem? hx'))).c3) rfl ?_
          refine At.ops0 ?_
          exact fun a ha => ⟨ha, rfl⟩
        refine At.wpcL #[true, true, true, true, true, true, true, true, true, true, true, true, false, false, false, false, false, false, false, false, false, false, false, false, false, false, false, false, false, false, false, false, false, false, false, false, false, false, false, false, false, false, false, false, false, false, false, false, false, false, false, false, false, false, false, false] (by kernel_rfl) ?_
        refine At.wpcS (i := 12) (d := 81) (.pointer (some ⟨b2, 0 + 1, none⟩)) (by kernel_rfl) rfl rfl rfl (fun Lx => ?_) ?_
        · skip
          refine At.yes rfl rfl rfl rfl ?_
          refine At.fieldAddr rfl fo31_1 rfl ?_
          refine At.ops0 ?_
          exact fun a ha => ⟨ha, rfl⟩
        refine At.wpcL #[true, true, true, true, true, true, true, true, true, true, true, true, true, false, false, false, false, false, false, false, false, false, false, false, false, false, false, false, false, false, false, false, false, false, false, false, false, false, false, false, false, false, false, false, false, false, false, false, false, false, false, false, false, false, false, false] (by kernel_rfl) ?_
        refine At.wpcS (i := 13) (d := 82) (.string (bs ((Tk.put x p).t))) (by kernel_rfl) rfl rfl rfl (fun Lx => ?_) ?_
        · skip
          refine At.yes rfl rfl rfl rfl ?_
          refine At.load rfl (Ld.ownCell ag9 hb2 ((((fun u _ => tk_ok u)) (Tk.put x p) (List.mem_of_getElem? hx'))).c1) rfl ?_
          refine At.ops0 ?_
          exact fun a ha => ⟨ha, rfl⟩
        refine At.wpcL #[true, true, true, true, true, true, true, true, true, true, true, true, true, true, false, false, false, false, false, false, false, false, false, false, false, false, false, false, false, false, false, false, false, false, false, false, false, false, false, false, false, false, false, false, false, false, false, false, false, false, false, false, false, false, false, false] (by kernel_rfl) ?_
        refine At.wpcS (i := 14) (d := 83) (.int .i64 ((Tk.put x p).t.length : Int)) (by kernel_rfl) rfl rfl rfl (fun Lx => ?_) ?_
        · skip
          refine At.yes rfl rfl rfl rfl ?_
          refine At.lenB (l := (Tk.put x p).t) rfl st9 rfl ?_
          refine At.ops0 ?_
          exact fun a ha => ⟨ha, rfl⟩
        refine At.wpcL #[true, true, true, true, true, true, true, true, true, true, true, true, true, true, true, false, false, false, false, false, false, false, false, false, false, false, false, false, false, false, false, false, false, false, false, false, false, false, false, false, false, false, false, false, false, false, false, false, false, false, false, false, false, false, false, false] (by kernel_rfl) ?_
        refine At.wpcS (i := 15) (d := 84) (.int .i64 ((p : Int) + ((Tk.put x p).t.length : Int))) (by kernel_rfl) rfl rfl rfl (fun Lx => ?_) ?_
        · skip
          refine At.yes rfl rfl rfl rfl ?_
          refine At.addI rfl rfl rfl (by omega) ?_
          refine At.ops0 ?_
          exact fun a ha => ⟨ha, rfl⟩
        refine At.wpcL #[true, true, true, true, true, true, true, true, true, true, true, true, true, true, true, true, false, false, false, false, false, false, false, false, false, false, false, false, false, false, false, false, false, false, false, false, false, false, false, false, false, false, false, false, false, false, false, false, false, false, false, false, false, false, false, false] (by kernel_rfl) ?_
        refine At.wpcS (i := 16) (d := 85) ((takeV v (min l.length 3000))) (by kernel_rfl) rfl rfl rfl (fun Lx => ?_) ?_
        · skip
          refine At.yes rfl rfl rfl rfl ?_
          refine At.move rfl rfl ?_
          refine At.ops0 ?_
          exact fun a ha => ⟨ha, rfl⟩
        refine At.wpcL #[true, true, true, true, true, true, true, true, true, true, true, true, true, true, true, true, true, false, false, false, false, false, false, false, false, false, false, false, false, false, false, false, false, false, false, false, false, false, false, false, false, false, false, false, false, false, false, false, false, false, false, false, false, false, false, false] (by kernel_rfl) ?_
        refine At.wpcS (i := 17) (d := 86) (.int .i64 (S1.length : Int)) (by kernel_rfl) rfl rfl rfl (fun Lx => ?_) ?_
        · skip
          refine At.yes rfl rfl rfl rfl ?_
          refine At.lenSl rfl (BytesAt.ok (BytesAt.eqL (BytesAt.take hv hle1) hS1)) el22 rfl ?_
          refine At.ops0 ?_
          exact fun a ha => ⟨ha, rfl⟩
        refine At.wpcL #[true, true, true, true, true, true, true, true, true, true, true, true, true, true, true, true, true, true, false, false, false, false, false, false, false, false, false, false, false, false, false, false, false, false, false, false, false, false, false, false, false, false, false, false, false, false, false, false, false, false, false, false, false, false, false, false] (by kernel_rfl) ?_
        refine At.wpcS (i := 18) (d := 87) (.bool (decide ((S1.length : Int) < ((p : Int) + ((Tk.put x p).t.length : Int))))) (by kernel_rfl) rfl rfl rfl (fun Lx => ?_) ?_
        · skip
          refine At.yes rfl rfl rfl rfl ?_
          refine At.gtr rfl rfl rfl ?_
          refine At.ops0 ?_
          exact fun a ha => ⟨ha, rfl⟩
        refine At.set (d := 87) (u := .bool false) rfl (congrArg Value.bool hbb6) ?_
        refine At.wpcL #[true, true, true, true, true, true, true, true, true, true, true, true, true, true, true, true, true, true, true, false, false, false, false, false, false, false, false, false, false, false, false, false, false, false, false, false, false, false, false, false, false, false, false, false, false, false, false, false, false, false, false, false, false, false, false, false] (by kernel_rfl) ?_
        refine At.wpcS (i := 19) (d := 88) (.bool false) (by kernel_rfl) rfl rfl rfl (fun Lx => ?_) ?_
        · skip
          refine At.pickF rfl rfl rfl ?_
          refine At.ops0 ?_
          exact fun a ha => ⟨ha, rfl⟩
        refine At.wpcL #[true, true, true, true, true, true, true, true, true, true, true, true, true, true, true, true, true, true, true, true, false, false, false, false, false, false, false, false, false, false, false, false, false, false, false, false, false, false, false, false, false, false, false, false, false, false, false, false, false, false, false, false, false, false, false, false] (by kernel_rfl) ?_
        refine At.wpcS (i := 20) (d := 89) (.bool false) (by kernel_rfl) rfl rfl rfl (fun Lx => ?_) ?_
        · skip
          refine At.move rfl rfl ?_
          refine At.ops0 ?_
          exact fun a ha => ⟨ha, rfl⟩
        refine At.wpcL #[true, true, true, true, true, true, true, true, true, true, true, true, true, true, true, true, true, true, true, true, true, false, false, false, false, false, false, false, false, false, false, false, false, false, false, false, false, false, false, false, false, false, false, false, false, false, false, false, false, false, false, false, false, false, false, false] (by kernel_rfl) ?_
        refine At.wpcS (i := 21) (d := 90) ((takeV v (min l.length 3000))) (by kernel_rfl) rfl rfl rfl (fun Lx => ?_) ?_
        · skip
          refine At.yes rfl rfl rfl rfl ?_
          refine At.move rfl rfl ?_
          refine At.ops0 ?_
          exact fun a ha => ⟨ha, rfl⟩
        refine At.wpcL #[true, true, true, true, true, true, true, true, true, true, true, true, true, true, true, true, true, true, true, true, true, true, false, false, false, false, false, false, false, false, false, false, false, false, false, false, false, false, false, false, false, false, false, false, false, false, false, false, false, false, false, false, false, false, false, false] (by kernel_rfl) ?_
        refine At.wpcS (i := 22) (d := 91) (.pointer (some ⟨b2, 0 + 3, none⟩)) (by kernel_rfl) rfl rfl rfl (fun Lx => ?_) ?_
        · skip
          refine At.yes rfl rfl rfl rfl ?_
          refine At.fieldAddr rfl fo31_3 rfl ?_
          refine At.ops0 ?_
          exact fun a ha => ⟨ha, rfl⟩
        refine At.wpcL #[true, true, true, true, true, true, true, true, true, true, true, true, true, true, true, true, true, true, true, true, true, true, true, false, false, false, false, false, false, false, false, false, false, false, false, false, false, false, false, false, false, false, false, false, false, false, false, false, false, false, false, false, false, false, false, false] (by kernel_rfl) ?_
        refine At.wpcS (i := 23) (d := 92) (.int .i64 (p : Int)) (by kernel_rfl) rfl rfl rfl (fun Lx => ?_) ?_
        · skip
          refine At.yes rfl rfl rfl rfl ?_
          refine At.load rfl (Ld.ownCell ag3 hb2 ((((fun u _ => tk_ok u)) (Tk.put x p) (List.mem_of_getElem? hx'))).c3) rfl ?_
          refine At.ops0 ?_
          exact fun a ha => ⟨ha, rfl⟩
        refine At.wpcL #[true, true, true, true, true, true, true, true, true, true, true, true, true, true, true, true, true, true, true, true, true, true, true, true, false, false, false, false, false, false, false, false, false, false, false, false, false, false, false, false, false, false, false, false, false, false, false, false, false, false, false, false, false, false, false, false] (by kernel_rfl) ?_
        refine At.wpcS (i := 24) (d := 93) (.pointer (some ⟨b2, 0 + 3, none⟩)) (by kernel_rfl) rfl rfl rfl (fun Lx => ?_) ?_
        · skip
          refine At.yes rfl rfl rfl rfl ?_
          refine At.fieldAddr rfl fo31_3 rfl ?_
          refine At.ops0 ?_
          exact fun a ha => ⟨ha, rfl⟩
        refine At.wpcL #[true, true, true, true, true, true, true, true, true, true, true, true, true, true, true, true, true, true, true, true, true, true, true, true, true, false, false, false, false, false, false, false, false, false, false, false, false, false, false, false, false, false, false, false, false, false, false, false, false, false, false, false, false, false, false, false] (by kernel_rfl) ?_
        refine At.wpcS (i := 25) (d := 94) (.int .i64 (p : Int)) (by kernel_rfl) rfl rfl rfl (fun Lx => ?_) ?_
        · skip
          refine At.yes rfl rfl rfl rfl ?_
          refine At.load rfl (Ld.ownCell ag3 hb2 ((((fun u _ => tk_ok u)) (Tk.put x p) (List.mem_of_getElem? hx'))).c3) rfl ?_
          refine At.ops0 ?_
          exact fun a ha => ⟨ha, rfl⟩
        refine At.wpcL #[true, true, true, true, true, true, true, true, true, true, true, true, true, true, true, true, true, true, true, true, true, true, true, true, true, true, false, false, false, false, false, false, false, false, false, false, false, false, false, false, false, false, false, false, false, false, false, false, false, false, false, false, false, false, false, false] (by kernel_rfl) ?_
        refine At.wpcS (i := 26) (d := 95) (.pointer (some ⟨b2, 0 + 1, none⟩)) (by kernel_rfl) rfl rfl rfl (fun Lx => ?_) ?_
        · skip
          refine At.yes rfl rfl rfl rfl ?_
          refine At.fieldAddr rfl fo31_1 rfl ?_
          refine At.ops0 ?_
          exact fun a ha => ⟨ha, rfl⟩
        refine At.wpcL #[true, true, true, true, true, true, true, true, true, true, true, true, true, true, true, true, true, true, true, true, true, true, true, true, true, true, true, false, false, false, false, false, false, false, false, false, false, false, false, false, false, false, false, false, false, false, false, false, false, false, false, false, false, false, false, false] (by kernel_rfl) ?_
        refine At.wpcS (i := 27) (d := 96) (.string (bs ((Tk.put x p).t))) (by kernel_rfl) rfl rfl rfl (fun Lx => ?_) ?_
        · skip
          refine At.yes rfl rfl rfl rfl ?_
          refine At.load rfl (Ld.ownCell ag9 hb2 ((((fun u _ => tk_ok u)) (Tk.put x p) (List.mem_of_getElem? hx'))).c1) rfl ?_
          refine At.ops0 ?_
          exact fun a ha => ⟨ha, rfl⟩
        refine At.wpcL #[true, true, true, true, true, true, true, true, true, true, true, true, true, true, true, true, true, true, true, true, true, true, true, true, true, true, true, true, false, false, false, false, false, false, false, false, false, false, false, false, false, false, false, false, false, false, false, false, false, false, false, false, false, false, false, false] (by kernel_rfl) ?_
        refine At.wpcS (i := 28) (d := 97) (.int .i64 ((Tk.put x p).t.length : Int)) (by kernel_rfl) rfl rfl rfl (fun Lx => ?_) ?_
        · skip
          refine At.yes rfl rfl rfl rfl ?_
          refine At.lenB (l := (Tk.put x p).t) rfl st9 rfl ?_
          refine At.ops0 ?_
          exact fun a ha => ⟨ha, rfl⟩
        refine At.wpcL #[true, true, true, true, true, true, true, true, true, true, true, true, true, true, true, true, true, true, true, true, true, true, true, true, true, true, true, true, true, false, false, false, false, false, false, false, false, false, false, false, false, false, false, false, false, false, false, false, false, false, false, false, false, false, false, false] (by kernel_rfl) ?_
        refine At.wpcS (i := 29) (d := 98) (.int .i64 ((p : Int) + ((Tk.put x p).t.length : Int))) (by kernel_rfl) rfl rfl rfl (fun Lx => ?_) ?_
        · skip
          refine At.yes rfl rfl rfl rfl ?_
          refine At.addI rfl rfl rfl (by omega) ?_
          refine At.ops0 ?_
          exact fun a ha => ⟨ha, rfl⟩
        refine At.wpcL #[true, true, true, true, true, true, true, true, true, true, true, true, true, true, true, true, true, true, true, true, true, true, true, true, true, true, true, true, true, true, false, false, false, false, false, false, false, false, false, false, false, false, false, false, false, false, false, false, false, false, false, false, false, false, false, false] (by kernel_rfl) ?_
        refine At.wpcS (i := 30) (d := 99) ((takeV (dropV 1 (takeV v (min l.length 3000)) p) ((p + (Tk.put x p).t.length) - p))) (by kernel_rfl) rfl rfl rfl (fun Lx => ?_) ?_
        · skip
          refine At.yes rfl rfl rfl rfl ?_
          refine At.sliceLH (lo := p) (hi := (p + (Tk.put x p).t.length)) rfl rfl rfl (BytesAt.ok (BytesAt.eqL (BytesAt.take hv hle1) hS1)) el22 sz5 (by omega) (by omega) rfl ?_
          refine At.ops0 ?_
          exact fun a ha => ⟨ha, rfl⟩
        refine At.wpcL #[true, true, true, true, true, true, true, true, true, true, true, true, true, true, true, true, true, true, true, true, true, true, true, true, true, true, true, true, true, true, true, false, false, false, false, false, false, false, false, false, false, false, false, false, false, false, false, false, false, false, false, false, false, false, false, false] (by kernel_rfl) ?_
        refine At.wpcS (i := 31) (d := 100) (.string (bs ((Tk.put x p).t))) (by kernel_rfl) rfl rfl rfl (fun Lx => ?_) ?_
        · skip
          refine At.yes rfl rfl rfl rfl ?_
          refine At.ofBytes (l := (Tk.put x p).t) rfl (BytesAt.keep (BytesAt.eqL (BytesAt.part (BytesAt.eqL (BytesAt.take hv hle1) hS1) (lo := p) (hi := (p + (Tk.put x p).t.length)) (by omega) (by omega)) (by rw [Nat.add_sub_cancel_left]; exact hxb)) hB) el22 ik5 st9 rfl ?_
          refine At.ops0 ?_
          exact fun a ha => ⟨ha, rfl⟩
        refine At.wpcL #[true, true, true, true, true, true, true, true, true, true, true, true, true, true, true, true, true, true, true, true, true, true, true, true, true, true, true, true, true, true, true, true, false, false, false, false, false, false, false, false, false, false, false, false, false, false, false, false, false, false, false, false, false, false, false, false] (by kernel_rfl) ?_
        refine At.wpcS (i := 32) (d := 101) (.pointer (some ⟨b2, 0 + 1, none⟩)) (by kernel_rfl) rfl rfl rfl (fun Lx => ?_) ?_
        · skip
          refine At.yes rfl rfl rfl rfl ?_
          refine At.fieldAddr rfl fo31_1 rfl ?_
          refine At.ops0 ?_
          exact fun a ha => ⟨ha, rfl⟩
        refine At.wpcL #[true, true, true, true, true, true, true, true, true, true, true, true, true, true, true, true, true, true, true, true, true, true, true, true, true, true, true, true, true, true, true, true, true, false, false, false, false, false, false, false, false, false, false, false, false, false, false, false, false, false, false, false, false, false, false, false] (by kernel_rfl) ?_
        refine At.wpcS (i := 33) (d := 102) (.string (bs ((Tk.put x p).t))) (by kernel_rfl) rfl rfl rfl (fun Lx => ?_) ?_
        · skip
          refine At.yes rfl rfl rfl rfl ?_
          refine At.load rfl (Ld.ownCell ag9 hb2 ((((fun u _ => tk_ok u)) (Tk.put x p) (List.mem_of_getElem? hx'))).c1) rfl ?_
          refine At.ops0 ?_
          exact fun a ha => ⟨ha, rfl⟩
        refine At.wpcL #[true, true, true, true, true, true, true, true, true, true, true, true, true, true, true, true, true, true, true, true, true, true, true, true, true, true, true, true, true, true, true, true, true, true, false, false, false, false, false, false, false, false, false, false, false, false, false, false, false, false, false, false, false, false, false, false] (by kernel_rfl) ?_
        refine At.wpcS (i := 34) (d := 103) (.bool (!decide ((Tk.put x p).t = (Tk.put x p).t))) (by kernel_rfl) rfl rfl rfl (fun Lx => ?_) ?_
        · skip
          refine At.yes rfl rfl rfl rfl ?_
          refine At.neB' (a := (Tk.put x p).t) (b := (Tk.put x p).t) rfl rfl rfl ?_
          refine At.ops0 ?_
          exact fun a ha => ⟨ha, rfl⟩
        refine At.set (d := 103) (u := .bool false) rfl (congrArg Value.bool hbb7) ?_
        refine At.wpcL #[true, true, true, true, true, true, true, true, true, true, true, true, true, true, true, true, true, true, true, true, true, true, true, true, true, true, true, true, true, true, true, true, true, true, true, false, false, false, false, false, false, false, false, false, false, false, false, false, false, false, false, false, false, false, false, false] (by kernel_rfl) ?_
        refine At.wpcS (i := 35) (d := 104) (.bool false) (by kernel_rfl) rfl rfl rfl (fun Lx => ?_) ?_
        · skip
          refine At.pickF rfl rfl rfl ?_
          refine At.ops0 ?_
          exact fun a ha => ⟨ha, rfl⟩
        refine At.wpcL #[true, true, true, true, true, true, true, true, true, true, true, true, true, true, true, true, true, true, true, true, true, true, true, true, true, true, true, true, true, true, true, true, true, true, true, true, false, false, false, false, false, false, false, false, false, false, false, false, false, false, false, false, false, false, false, false] (by kernel_rfl) ?_
        refine At.wpcS (i := 36) (d := 105) (.bool false) (by kernel_rfl) rfl rfl rfl (fun Lx => ?_) ?_
        · skip
          refine At.move rfl rfl ?_
          refine At.ops0 ?_
          exact fun a ha => ⟨ha, rfl⟩
        refine At.wpcL #[true, true, true, true, true, true, true, true, true, true, true, true, true, true, true, true, true, true, true, true, true, true, true, true, true, true, true, true, true, true, true, true, true, true, true, true, true, false, false, false, false, false, false, false, false, false, false, false, false, false, false, false, false, false, false, false] (by kernel_rfl) ?_
        refine At.wpcS (i := 37) (d := 106) (.pointer (some ⟨b2, 0 + 0, none⟩)) (by kernel_rfl) rfl rfl rfl (fun Lx => ?_) ?_
        · skip
          refine At.yes rfl rfl rfl rfl ?_
          refine At.fieldAddr rfl fo31_0 rfl ?_
          refine At.ops0 ?_
          exact fun a ha => ⟨ha, rfl⟩
        refine At.wpcL #[true, true, true, true, true, true, true, true, true, true, true, true, true, true, true, true, true, true, true, true, true, true, true, true, true, true, true, true, true, true, true, true, true, true, true, true, true, true, false, false, false, false, false, false, false, false, false, false, false, false, false, false, false, false, false, false] (by kernel_rfl) ?_
        refine At.wpcS (i := 38) (d := 107) (.int .i64 ((Tk.put x p).k)) (by kernel_rfl) rfl rfl rfl (fun Lx => ?_) ?_
        · skip
          refine At.yes rfl rfl rfl rfl ?_
          refine At.load rfl (Ld.ownCell ag3 hb2 ((((fun u _ => tk_ok u)) (Tk.put x p) (List.mem_of_getElem? hx'))).c0) rfl ?_
          refine At.ops0 ?_
          exact fun a ha => ⟨ha, rfl⟩
        refine At.wpcL #[true, true, true, true, true, true, true, true, true, true, true, true, true, true, true, true, true, true, true, true, true, true, true, true, true, true, true, true, true, true, true, true, true, true, true, true, true, true, true, false, false, false, false, false, false, false, false, false, false, false, false, false, false, false, false, false] (by kernel_rfl) ?_
        refine At.wpcS (i := 39) (d := 108) (.bool (decide ((Tk.put x p).k < 1))) (by kernel_rfl) rfl rfl rfl (fun Lx => ?_) ?_
        · skip
          refine At.yes rfl rfl rfl rfl ?_
          refine At.lss rfl rfl rfl ?_
          refine At.ops0 ?_
          exact fun a ha => ⟨ha, rfl⟩
        refine At.set (d := 108) (u := .bool false) rfl (congrArg Value.bool hbb8) ?_
        refine At.wpcL #[true, true, true, true, true, true, true, true, true, true, true, true, true, true, true, true, true, true, true, true, true, true, true, true, true, true, true, true, true, true, true, true, true, true, true, true, true, true, true, true, false, false, false, false, false, false, false, false, false, false, false, false, false, false, false, false] (by kernel_rfl) ?_
        refine At.wpcS (i := 40) (d := 109) (.bool false) (by kernel_rfl) rfl rfl rfl (fun Lx => ?_) ?_
        · skip
          refine At.pickF rfl rfl rfl ?_
          refine At.ops0 ?_
          exact fun a ha => ⟨ha, rfl⟩
        refine At.wpcL #[true, true, true, true, true, true, true, true, true, true, true, true, true, true, true, true, true, true, true, true, true, true, true, true, true, true, true, true, true, true, true, true, true, true, true, true, true, true, true, true, true, false, false, false, false, false, false, false, false, false, false, false, false, false, false, false] (by kernel_rfl) ?_
        refine At.wpcS (i := 41) (d := 110) (.bool false) (by kernel_rfl) rfl rfl rfl (fun Lx => ?_) ?_
        · skip
          refine At.move rfl rfl ?_
          refine At.ops0 ?_
          exact fun a ha => ⟨ha, rfl⟩
        refine At.wpcL #[true, true, true, true, true, true, true, true, true, true, true, true, true, true, true, true, true, true, true, true, true, true, true, true, true, true, true, true, true, true, true, true, true, true, true, true, true, true, true, true, true, true, false, false, false, false, false, false, false, false, false, false, false, false, false, false] (by kernel_rfl) ?_
        refine At.wpcS (i := 42) (d := 111) (.pointer (some ⟨b2, 0 + 0, none⟩)) (by kernel_rfl) rfl rfl rfl (fun Lx => ?_) ?_
        · skip
          refine At.yes rfl rfl rfl rfl ?_
          refine At.fieldAddr rfl fo31_0 rfl ?_
          refine At.ops0 ?_
          exact fun a ha => ⟨ha, rfl⟩
        refine At.wpcL #[true, true, true, true, true, true, true, true, true, true, true, true, true, true, true, true, true, true, true, true, true, true, true, true, true, true, true, true, true, true, true, true, true, true, true, true, true, true, true, true, true, true, true, false, false, false, false, false, false, false, false, false, false, false, false, false] (by kernel_rfl) ?_
        refine At.wpcS (i := 43) (d := 112) (.int .i64 ((Tk.put x p).k)) (by kernel_rfl) rfl rfl rfl (fun Lx => ?_) ?_
        · skip
          refine At.yes rfl rfl rfl rfl ?_
          refine At.load rfl (Ld.ownCell ag3 hb2 ((((fun u _ => tk_ok u)) (Tk.put x p) (List.mem_of_getElem? hx'))).c0) rfl ?_
          refine At.ops0 ?_
          exact fun a ha => ⟨ha, rfl⟩
        refine At.wpcL #[true, true, true, true, true, true, true, true, true, true, true, true, true, true, true, true, true, true, true, true, true, true, true, true, true, true, true, true, true, true, true, true, true, true, true, true, true, true, true, true, true, true, true, true, false, false, false, false, false, false, false, false, false, false, false, false] (by kernel_rfl) ?_
        refine At.wpcS (i := 44) (d := 113) (.bool (decide (6 < (Tk.put x p).k))) (by kernel_rfl) rfl rfl rfl (fun Lx => ?_) ?_
        · skip
          refine At.yes rfl rfl rfl rfl ?_
          refine At.gtr rfl rfl rfl ?_
          refine At.ops0 ?_
          exact fun a ha => ⟨ha, rfl⟩
        refine At.set (d := 113) (u := .bool false) rfl (congrArg Value.bool hbb9) ?_
        refine At.wpcL #[true, true, true, true, true, true, true, true, true, true, true, true, true, true, true, true, true, true, true, true, true, true, true, true, true, true, true, true, true, true, true, true, true, true, true, true, true, true, true, true, true, true, true, true, true, false, false, false, false, false, false, false, false, false, false, false] (by kernel_rfl) ?_
        refine At.wpcS (i := 45) (d := 114) (.bool false) (by kernel_rfl) rfl rfl rfl (fun Lx => ?_) ?_
        · skip
          refine At.pickF rfl rfl rfl ?_
          refine At.ops0 ?_
          exact fun a ha => ⟨ha, rfl⟩
        refine At.wpcL #[true, true, true, true, true, true, true, true, true, true, true, true, true, true, true, true, true, true, true, true, true, true, true, true, true, true, true, true, true, true, true, true, true, true, true, true, true, true, true, true, true, true, true, true, true, true, false, false, false, false, false, false, false, false, false, false] (by kernel_rfl) ?_
        refine At.wpcS (i := 46) (d := 115) (.bool false) (by kernel_rfl) rfl rfl rfl (fun Lx => ?_) ?_
        · skip
          refine At.move rfl rfl ?_
          refine At.ops0 ?_
          exact fun a ha => ⟨ha, rfl⟩
        refine At.wpcL #[true, true, true, true, true, true, true, true, true, true, true, true, true, true, true, true, true, true, true, true, true, true, true, true, true, true, true, true, true, true, true, true, true, true, true, true, true, true, true, true, true, true, true, true, true, true, true, false, false, false, false, false, false, false, false, false] (by kernel_rfl) ?_
        refine At.wpcS (i := 47) (d := 116) (.pointer (some ⟨b2, 0 + 0, none⟩)) (by kernel_rfl) rfl rfl rfl (fun Lx => ?_) ?_
        · skip
          refine At.yes rfl rfl rfl rfl ?_
          refine At.fieldAddr rfl fo31_0 rfl ?_
          refine At.ops0 ?_
          exact fun a ha => ⟨ha, rfl⟩
        refine At.wpcL #[true, true, true, true, true, true, true, true, true, true, true, true, true, true, true, true, true, true, true, true, true, true, true, true, true, true, true, true, true, true, true, true, true, true, true, true, true, true, true, true, true, true, true, true, true, true, true, true, false, false, false, false, false, false, false, false] (by kernel_rfl) ?_
        refine At.wpcS (i := 48) (d := 117) (.int .i64 ((Tk.put x p).k)) (by kernel_rfl) rfl rfl rfl (fun Lx => ?_) ?_
        · skip
          refine At.yes rfl rfl rfl rfl ?_
          refine At.load rfl (Ld.ownCell ag3 hb2 ((((fun u _ => tk_ok u)) (Tk.put x p) (List.mem_of_getElem? hx'))).c0) rfl ?_
          refine At.ops0 ?_
          exact fun a ha => ⟨ha, rfl⟩
        refine At.wpcL #[true, true, true, true, true, true, true, true, true, true, true, true, true, true, true, true, true, true, true, true, true, true, true, true, true, true, true, true, true, true, true, true, true, true, true, true, true, true, true, true, true, true, true, true, true, true, true, true, true, false, false, false, false, false, false, false] (by kernel_rfl) ?_
        refine At.wpcS (i := 49) (d := 118) (.bool (!decide ((Tk.put x p).k = 1))) (by kernel_rfl) rfl rfl rfl (fun Lx => ?_) ?_
        · skip
          refine At.yes rfl rfl rfl rfl ?_
          refine At.neI rfl rfl rfl ?_
          refine At.ops0 ?_
          exact fun a ha => ⟨ha, rfl⟩
        refine At.set (d := 118) (u := .bool false) rfl (congrArg Value.bool hg1) ?_
        refine At.wpcL #[true, true, true, true, true, true, true, true, true, true, true, true, true, true, true, true, true, true, true, true, true, true, true, true, true, true, true, true, true, true, true, true, true, true, true, true, true, true, true, true, true, true, true, true, true, true, true, true, true, true, false, false, false, false, false, false] (by kernel_rfl) ?_
        refine At.wpcS (i := 50) (d := 119) (.bool false) (by kernel_rfl) rfl rfl rfl (fun Lx => ?_) ?_
        · skip
          refine At.yes rfl rfl rfl rfl ?_
          refine At.move rfl rfl ?_
          refine At.ops0 ?_
          exact fun a ha => ⟨ha, rfl⟩
        refine At.wpcL #[true, true, true, true, true, true, true, true, true, true, true, true, true, true, true, true, true, true, true, true, true, true, true, true, true, true, true, true, true, true, true, true, true, true, true, true, true, true, true, true, true, true, true, true, true, true, true, true, true, true, true, false, false, false, false, false] (by kernel_rfl) ?_
        refine At.wpcS (i := 51) (d := 120) (undef) (by kernel_rfl) rfl rfl rfl (fun Lx => ?_) ?_
        · skip
          refine At.no rfl rfl rfl rfl rfl rfl rfl ?_
          refine At.ops0 ?_
          exact fun a ha => ⟨ha, rfl⟩
        refine At.wpcL #[true, true, true, true, true, true, true, true, true, true, true, true, true, true, true, true, true, true, true, true, true, true, true, true, true, true, true, true, true, true, true, true, true, true, true, true, true, true, true, true, true, true, true, true, true, true, true, true, true, true, true, true, false, false, false, false] (by kernel_rfl) ?_
        refine At.wpcS (i := 52) (d := 121) (undef) (by kernel_rfl) rfl rfl rfl (fun Lx => ?_) ?_
        · skip
          refine At.no rfl rfl rfl rfl rfl rfl rfl ?_
          refine At.ops0 ?_
          exact fun a ha => ⟨ha, rfl⟩
        refine At.wpcL #[true, true, true, true, true, true, true, true, true, true, true, true, true, true, true, true, true, true, true, true, true, true, true, true, true, true, true, true, true, true, true, true, true, true, true, true, true, true, true, true, true, true, true, true, true, true, true, true, true, true, true, true, true, false, false, false] (by kernel_rfl) ?_
        refine At.wpcS (i := 53) (d := 122) (undef) (by kernel_rfl) rfl rfl rfl (fun Lx => ?_) ?_
        · skip
          refine At.no rfl rfl rfl rfl rfl rfl rfl ?_
          refine At.ops0 ?_
          exact fun a ha => ⟨ha, rfl⟩
        refine At.wpcL #[true, true, true, true, true, true, true, true, true, true, true, true, true, true, true, true, true, true, true, true, true, true, true, true, true, true, true, true, true, true, true, true, true, true, true, true, true, true, true, true, true, true, true, true, true, true, true, true, true, true, true, true, true, true, false, false] (by kernel_rfl) ?_
        refine At.wpcS (i := 54) (d := 123) (.bool false) (by kernel_rfl) rfl rfl rfl (fun Lx => ?_) ?_
        · skip
          refine At.yes rfl rfl rfl rfl ?_
          refine At.pickF rfl rfl rfl ?_
          refine At.ops0 ?_
          exact fun a ha => ⟨ha, rfl⟩
        refine At.wpcL #[true, true, true, true, true, true, true, true, true, true, true, true, true, true, true, true, true, true, true, true, true, true, true, true, true, true, true, true, true, true, true, true, true, true, true, true, true, true, true, true, true, true, true, true, true, true, true, true, true, true, true, true, true, true, true, false] (by kernel_rfl) ?_
        refine At.wpcS (i := 55) (d := 124) (.bool false) (by kernel_rfl) rfl rfl rfl (fun Lx => ?_) ?_
        · skip
          refine At.pickF rfl rfl rfl ?_
          refine At.ops0 ?_
          exact fun a ha => ⟨ha, rfl⟩
        refine At.wpcZ ?_
        refine At.thenN ?_
        refine At.condF rfl ?_
        refine At.skip ?_
        refine At.thenN ?_
        refine At.region ?_
        refine At.fieldAddr rfl fo31_3 rfl ?_
        refine At.load rfl (Ld.ownCell ag3 hb2 ((((fun u _ => tk_ok u)) (Tk.put x p) (List.mem_of_getElem? hx'))).c3) rfl ?_
        refine At.set (d := 126) (u := .int .i64 (p : Int)) rfl (congrArg (Value.int .i64) rfl) ?_
        refine At.fieldAddr rfl fo31_1 rfl ?_
        refine At.load rfl (Ld.ownCell ag9 hb2 ((((fun u _ => tk_ok u)) (Tk.put x p) (List.mem_of_getElem? hx'))).c1) rfl ?_
        refine At.lenB (l := (Tk.put x p).t) rfl st9 rfl ?_
        refine At.addI rfl rfl rfl (by omega) ?_
        refine At.assign rfl rfl ?_
        refine At.ops0 ?_
        refine At.inN ?_
        refine At.thenN ?_
        refine At.region ?_
        refine At.move rfl rfl ?_
        refine At.addI rfl rfl rfl (by omega) ?_
        refine At.assign rfl rfl ?_
        refine At.ops0 ?_
        refine At.thenN ?_
        exact fun act_ hact_ => ⟨((k + 1), (p + (Tk.put x p).t.length)), hact_.sub (Sub.cons rfl (Sub.cons rfl (Sub.cons rfl (Sub.cons rfl (Sub.cons rfl (Sub.cons rfl (Sub.cons rfl Sub.nil))))))), ⟨hB, hO1, (by omega), (hxr)⟩, by first | omega | (dsimp only; omega)⟩
    · skip
      have hc2' := of_decide_eq_false hc2
      refine At.exit ?_
      refine At.thenE ?_
      refine At.thenE ?_
      refine At.inE ?_
      refine At.thenN ?_
      refine At.seq ?_
      refine At.region ?_
      refine At.move rfl rfl ?_
      refine At.move rfl rfl ?_
      refine At.yes rfl rfl rfl rfl ?_
      refine At.move rfl rfl ?_
      refine At.yes rfl rfl rfl rfl ?_
      refine At.eqI rfl rfl rfl ?_
      refine At.pickT rfl rfl rfl ?_
      refine At.move rfl rfl ?_
      have hbb10 : (decide (0 = 0)) = true := by decide
      refine At.set (d := 136) (u := .bool true) rfl (congrArg Value.bool hbb10) ?_
      refine At.yes rfl rfl rfl rfl ?_
      refine At.move rfl rfl ?_
      refine At.pickT rfl rfl rfl ?_
      refine At.assign rfl rfl ?_
      refine At.ops0 ?_
      refine At.thenN ?_
      refine At.retc ?_
      refine At.doneR (ResV.tmp rfl ResV.nil) ?_
      exact ⟨congrArg Ending.returned (congrArg Value.bool (show ((sameB false (lexT S1) ts2)) = true from sameB_strip hst.symm)), hB⟩
end Go.Proofs.Ytkalnkedpiemaaa
