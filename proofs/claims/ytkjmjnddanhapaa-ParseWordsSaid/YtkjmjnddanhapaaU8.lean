/-
 The walks of depth, program, Parse. Written by a program of ours.
-/
import Derived.Test.YtkjmjnddanhapaaN8
import Derived.Test.YtkjmjnddanhapaaV3
set_option linter.unusedVariables false
set_option linter.unusedSimpArgs false
namespace Go.Proofs.Ytkjmjnddanhapaa
open Go.RowKit
theorem ag24 : aggB Try.prog 24 = some false := by kernel_rfl
theorem ag25 : aggB Try.prog 25 = some false := by kernel_rfl
theorem ag37 : aggB Try.prog 37 = some true := by kernel_rfl
theorem by55 : bytesB Try.prog 55 = some 40 := by kernel_rfl
theorem by66 : bytesB Try.prog 66 = some 40 := by kernel_rfl
theorem el24 : elemB Try.prog 24 = some 55 := by kernel_rfl
theorem el25 : elemB Try.prog 25 = some 66 := by kernel_rfl
theorem en39 : entB Try.prog 39 = true := by kernel_rfl
theorem en44 : entB Try.prog 44 = true := by kernel_rfl
theorem en45 : entB Try.prog 45 = true := by kernel_rfl
theorem fo37_0 : fieldB Try.prog 37 0 = some (0, 1) := by kernel_rfl
theorem fo37_1 : fieldB Try.prog 37 1 = some (1, 1) := by kernel_rfl
theorem fo37_2 : fieldB Try.prog 37 2 = some (2, 21) := by kernel_rfl
theorem sz24 : sizeB Try.prog 24 = some 1 := by kernel_rfl
theorem sz25 : sizeB Try.prog 25 = some 1 := by kernel_rfl
theorem sz37 : sizeB Try.prog 37 = some 23 := by kernel_rfl
theorem ze37 : zeroB Try.prog 37 = some (.agg #[(.slice none 0 0), (.slice none 0 0), .int .i64 0, .int .i64 0, .string (⟨#[]⟩ : ByteArray), .string (⟨#[]⟩ : ByteArray), .int .i64 0, (.slice none 0 0), (.slice none 0 0), .int .i64 0, .string (⟨#[]⟩ : ByteArray), .int .i64 0, (.slice none 0 0), (.slice none 0 0), .int .i64 0, (.slice none 0 0), .int .i64 0, .int .i64 0, .string (⟨#[]⟩ : ByteArray), .int .i64 0, (.slice none 0 0), (.slice none 0 0), .int .i64 0]) := by kernel_rfl
theorem depth_step (left : Nat) (t : Tm) (w : World) (ht : TmOk w t) (hl1 : 1 ≤ left) (hl2 : left ≤ 1000)
  (ih : 1 < left → ∀ (t : Tm) (w : World), TmOk w t → Calls Try.prog 39 ([.agg t.cs, .int .i64 ((left - 1 : Nat) : Int)] : List Value).toArray w fun e w' => e = .returned (.int .i64 ((min (left - 1) (dS (shT t)) : Nat) : Int)) ∧ Below w.heap.size w w') :
  Calls Try.prog 39 ([.agg t.cs, .int .i64 (left : Int)] : List Value).toArray w fun e w' => e = .returned (.int .i64 ((min left (dS (shT t)) : Nat) : Int)) ∧ Below w.heap.size w w' := by
 have hB := Below.refl w.heap.size w
 refine At.enter (N := 44) Try.func39 rfl rfl (by simp) [(0, .agg t.cs), (1, .int .i64 (left : Int))] (by simp) ?_
 refine .seq (.region ?_)
 refine At.box rfl rfl (fun b1 w1 F1 => ?_)
 have gb1 := F1.ge hB
 have hb1 : w1.heap[b1]? = some (.cells t.cs 35) := F1.new
 replace hB := F1.below' hB
 refine .assign rfl rfl (.ops0 (.thenN (.seq (.seq (.region (.move rfl rfl (.leq rfl rfl rfl (.ops0 (.thenN ?_)))))))))
 refine At.cond (b := decide ((left : Int) ≤ 1)) rfl (fun hc1 => ?_) (fun hc1 => ?_)
 ·skip
  have hc1' := of_decide_eq_true hc1
  refine .seq (.region (.move rfl rfl (.assign rfl rfl (.ops0 (.thenN (.retc (.thenR (.doneR (ResV.tmp rfl ResV.nil) ?_))))))))
  exact ⟨congrArg Ending.returned (congrArg (Value.int .i64) (by have := dS_pos (shT t); omega)), hB⟩
 ·skip
  have hc1' := of_decide_eq_false hc1
  refine .skip (.thenN (.seq (.region (.assign rfl rfl (.ops0 (.thenN (.seq (.seq ?_))))))))
  replace ih := ih (by omega)
  refine .region (.fieldAddr rfl fo35_5 rfl (.load rfl (Ld.ownCell ag26 hb1 (ht).c5) rfl (.lenSl rfl ((ht).kidsAt).okL el26 rfl (.move rfl rfl (.ops0 (.thenN (.block ?_)))))))
  refine At.loop (Nat × Nat) (fun (k, n) => [(1, .int .i64 (left : Int)), (2, .pointer (some ⟨b1, 0, none⟩)), (5, .int .i64 (n : Int)), (14, t.kv), (15, .int .i64 (t.kids.length : Int)), (16, .int .i64 (k : Int))]) (fun (k, n) w2 => Below w.heap.size w w2 ∧ w2.heap[b1]? = some (.cells t.cs 35) ∧ (k ≤ t.kids.length) ∧ (n = min (left - 1) (dSL ((t.kids.take k).map shT)))) (fun (k, n) => t.kids.length - k) (0, 0) (Sub.cons rfl (Sub.cons rfl (Sub.cons rfl (Sub.cons rfl (Sub.cons rfl (Sub.cons rfl Sub.nil)))))) ⟨hB, hb1, (Nat.zero_le _), (by simp [dSL])⟩ (fun gh w2 hI => ?_)
  obtain ⟨k, n⟩ := gh
  clear hB hb1
  obtain ⟨hB, hb1, hkb, hn⟩ := hI
  show At _ _ [(1, .int .i64 (left : Int)), (2, .pointer (some ⟨b1, 0, none⟩)), (5, .int .i64 (n : Int)), (14, t.kv), (15, .int .i64 (t.kids.length : Int)), (16, .int .i64 (k : Int))] _ _
  have hkl := ht.kidsAt.lenL
  refine .seq (.region (.lss rfl rfl rfl (.ops0 (.thenN (.seq ?_)))))
  refine At.cond (b := decide ((k : Int) < (t.kids.length : Int))) rfl (fun hc2 => ?_) (fun hc2 => ?_)
  ·skip
   have hc2' := of_decide_eq_true hc2
   refine .skip (.thenN (.seq (.block (.seq ?_))))
   obtain ⟨u1, hu1⟩ := some_of_lt (l := t.kids) (i := k) (by omega)
   have hdn := kid_next hu1
   refine .region (.indexAddr (i := k) rfl rfl ((ht).kidsAt).okL (lt_of_some hu1) el26 sz35 rfl (.load rfl (Ld.row ag35 (sz35.trans (congrArg some (((ht).kid hu1)).size.symm)) ((((ht).kidsAt).row hu1).keep hB)) rfl ?_))
   refine At.alloc ze35 rfl (fun b2 w3 F2 => ?_)
   have n_b1_b2 : b1 ≠ b2 := Nat.ne_of_lt (F2.lt hb1)
   have gb2 := F2.ge hB
   replace hb1 := F2.old hb1
   have hb2 : w3.heap[b2]? = some (.cells #[zI, zI, zS, zS, zI, zN, zN, zI, zS, zI, zN, zN, zI, zN, zI, zI, zS, zI, zN, zN, zI] 35) := F2.new
   replace hB := F2.below' hB
   refine At.storeAll rfl rfl hb2 (sz35.trans (congrArg some (((ht).kid hu1)).size.symm)) (((ht).kid hu1)).size.symm (((ht).kid hu1)).one (fun w4 S1 => ?_)
   replace hb1 := S1.other hb1 n_b1_b2
   replace hb2 : w4.heap[b2]? = some (.cells u1.cs 35) := S1.new
   replace hB := S1.below' hB gb2
   refine .ops0 (.thenN (.region (.move rfl rfl (.load rfl (Ld.own ag35 (sz35.trans (congrArg some (((ht).kid hu1)).size.symm)) hb2) rfl (.move rfl rfl (.subI rfl rfl rfl (by omega) (.set (d := 23) (u := .int .i64 (((left - 1) : Nat) : Int)) rfl (congrArg (Value.int .i64) (by omega)) ?_)))))))
   refine At.call en39 rfl rfl (ih u1 _ ((((ht).kid hu1)).keep hB)) (fun e w5 hR => ?_)
   obtain ⟨rfl, hbl1⟩ := hR
   refine ⟨_, rfl, ?_⟩
   replace hb1 := Below.old hbl1 hb1
   replace hb2 := Below.old hbl1 hb2
   replace hB := Below.andThen hB hbl1
   refine .maxI rfl rfl rfl (.set (d := 25) (u := .int .i64 (((max n (min (left - 1) (dS (shT u1)))) : Nat) : Int)) rfl (congrArg (Value.int .i64) (max_lit _ _)) (.assign rfl rfl (.ops0 (.inN (.thenN (.region (.addI rfl rfl rfl (by omega) (.move rfl rfl (.ops0 (.thenN ?_))))))))))
   exact fun act_ hact_ => ⟨((k + 1), (max n (min (left - 1) (dS (shT u1))))), hact_.sub (Sub.cons rfl (Sub.cons rfl (Sub.cons rfl (Sub.cons rfl (Sub.cons rfl (Sub.cons rfl Sub.nil)))))), ⟨hB, hb1, (by omega), (by rw [hdn]; omega)⟩, by first | omega | (dsimp only; omega)⟩
  ·skip
   have hc2' := of_decide_eq_false hc2
   refine .exit (.thenE (.thenE (.inE (.thenN (.seq (.seq (.region (.fieldAddr rfl fo35_6 rfl (.load rfl (Ld.ownCell ag27 hb1 (ht).c6) rfl (.lenSl rfl ((ht).armsAt).okL el27 rfl (.move rfl rfl (.ops0 (.thenN (.block ?_))))))))))))))
   refine At.loop (Nat × Nat) (fun (j, q) => [(1, .int .i64 (left : Int)), (5, .int .i64 (q : Int)), (28, t.av), (29, .int .i64 (t.arms.length : Int)), (30, .int .i64 (j : Int))]) (fun (j, q) w6 => Below w.heap.size w w6 ∧ (j ≤ t.arms.length) ∧ (q = max n (min (left - 1) (dSA ((t.arms.take j).map shAm))))) (fun (j, q) => t.arms.length - j) (0, n) (Sub.cons rfl (Sub.cons rfl (Sub.cons rfl (Sub.cons rfl (Sub.cons rfl Sub.nil))))) ⟨hB, (Nat.zero_le _), (by simp [dSA])⟩ (fun gh w6 hI => ?_)
   obtain ⟨j, q⟩ := gh
   clear hB hb1
   obtain ⟨hB, hjb, hq⟩ := hI
   show At _ _ [(1, .int .i64 (left : Int)), (5, .int .i64 (q : Int)), (28, t.av), (29, .int .i64 (t.arms.length : Int)), (30, .int .i64 (j : Int))] _ _
   have hal := ht.armsAt.lenL
   refine .seq (.region (.lss rfl rfl rfl (.ops0 (.thenN (.seq ?_)))))
   refine At.cond (b := decide ((j : Int) < (t.arms.length : Int))) rfl (fun hc3 => ?_) (fun hc3 => ?_)
   ·skip
    have hc3' := of_decide_eq_true hc3
    refine .skip (.thenN (.seq (.block (.seq ?_))))
    obtain ⟨u2, hu2⟩ := some_of_lt (l := t.arms) (i := j) (by omega)
    have hdn := arm_next hu2
    refine .region (.indexAddr (i := j) rfl rfl ((ht).armsAt).okL (lt_of_some hu2) el27 sz61 rfl (.load rfl (Ld.row ag61 (sz61.trans (congrArg some (((ht).arm hu2)).size.symm)) ((((ht).armsAt).row hu2).keep hB)) rfl ?_))
    refine At.alloc ze61 rfl (fun b3 w7 F3 => ?_)
    have gb3 := F3.ge hB
    have hb3 : w7.heap[b3]? = some (.cells #[zS, zN, zI, zI, zS, zS, zI, zN, zN, zI, zS, zI, zN, zN, zI, zN, zI, zI, zS, zI, zN, zN, zI] 61) := F3.new
    replace hB := F3.below' hB
    refine At.storeAll rfl rfl hb3 (sz61.trans (congrArg some (((ht).arm hu2)).size.symm)) (((ht).arm hu2)).size.symm (((ht).arm hu2)).one (fun w8 S2 => ?_)
    replace hb3 : w8.heap[b3]? = some (.cells u2.cs 61) := S2.new
    replace hB := S2.below' hB gb3
    refine .ops0 (.thenN (.region (.move rfl rfl (.fieldAddr rfl fo61_2 rfl (.load rfl (Ld.ownPart ag35 (sz35.trans (congrArg some ((((ht).arm hu2)).body).size.symm)) hb3 (((ht).arm hu2)).bodyCs) rfl (.move rfl rfl (.subI rfl rfl rfl (by omega) (.set (d := 38) (u := .int .i64 (((left - 1) : Nat) : Int)) rfl (congrArg (Value.int .i64) (by omega)) ?_))))))))
    refine At.call en39 rfl rfl (ih u2.body _ (((((ht).arm hu2)).body).keep hB)) (fun e w9 hR => ?_)
    obtain ⟨rfl, hbl2⟩ := hR
    refine ⟨_, rfl, ?_⟩
    replace hb3 := Below.old hbl2 hb3
    replace hB := Below.andThen hB hbl2
    refine .maxI rfl rfl rfl (.set (d := 40) (u := .int .i64 (((max q (min (left - 1) (dS (shT u2.body)))) : Nat) : Int)) rfl (congrArg (Value.int .i64) (max_lit _ _)) (.assign rfl rfl (.ops0 (.inN (.thenN (.region (.addI rfl rfl rfl (by omega) (.move rfl rfl (.ops0 (.thenN ?_))))))))))
    exact fun act_ hact_ => ⟨((j + 1), (max q (min (left - 1) (dS (shT u2.body))))), hact_.sub (Sub.cons rfl (Sub.cons rfl (Sub.cons rfl (Sub.cons rfl (Sub.cons rfl Sub.nil))))), ⟨hB, (by omega), (by rw [hdn]; omega)⟩, by first | omega | (dsimp only; omega)⟩
   ·skip
    have hc3' := of_decide_eq_false hc3
    refine .exit (.thenE (.thenE (.inE (.thenN (.seq (.region (.move rfl rfl (.addI rfl rfl rfl (by omega) (.assign rfl rfl (.ops0 (.thenN (.retc (.doneR (ResV.tmp rfl ResV.nil) ?_)))))))))))))
    exact ⟨congrArg Ending.returned (congrArg (Value.int .i64) (by rw [List.take_of_length_le (by omega)] at hq hn; rw [dS_eq]; omega)), hB⟩
theorem depth_any : ∀ (left : Nat), 1 ≤ left → left ≤ 1000 → ∀ (t : Tm) (w : World), TmOk w t → Calls Try.prog 39 ([.agg t.cs, .int .i64 (left : Int)] : List Value).toArray w fun e w' => e = .returned (.int .i64 ((min left (dS (shT t)) : Nat) : Int)) ∧ Below w.heap.size w w' := by
 intro left
 induction left with
 | zero => intro h; omega
 | succ n ih => intro h1 h2 t w ht; exact depth_step (n + 1) t w ht h1 h2 (fun h t w ht => ih (by omega) (by omega) t w ht)
theorem Depth_any (t : Tm) (w : World) (ht : TmOk w t) :
  Calls Try.prog 19 ([.agg t.cs] : List Value).toArray w fun e w' => e = .returned (.int .i64 ((min 1000 (dS (shT t)) : Nat) : Int)) ∧ Below w.heap.size w w' := by
 have hB := Below.refl w.heap.size w
 refine At.enter (N := 5) Try.func19 rfl rfl (by simp) [(0, .agg t.cs)] (by simp) ?_
 refine .seq (.region ?_)
 refine At.box rfl rfl (fun b1 w1 F1 => ?_)
 have gb1 := F1.ge hB
 have hb1 : w1.heap[b1]? = some (.cells t.cs 35) := F1.new
 replace hB := F1.below' hB
 refine .assign rfl rfl (.ops0 (.thenN (.seq (.region (.load rfl (Ld.own ag35 (sz35.trans (congrArg some (ht).size.symm)) hb1) rfl ?_)))))
 refine At.call en39 rfl rfl (depth_any 1000 (by decide) (by decide) t _ ((ht).keep hB)) (fun e w2 hR => ?_)
 obtain ⟨rfl, hbl1⟩ := hR
 refine ⟨_, rfl, ?_⟩
 replace hb1 := Below.old hbl1 hb1
 replace hB := Below.andThen hB hbl1
 refine .assign rfl rfl (.ops0 (.thenN (.retc (.doneR (ResV.tmp rfl ResV.nil) ?_))))
 exact ⟨rfl, hB⟩
theorem program_any {wB : World} {b0 : Nat} {en : Int} (ts : List Tk) (v : Value) (w : World) (hB0 : Below wB.heap.size wB w) (hSge : ∀ k, k = b0 → wB.heap.size ≤ k) (hts : RowsAt wB v 4 (ts.map Tk.cs)) (hb0 : w.heap[b0]? = some (.cells #[v, .int .i64 en, zI] 81)) (hbig : ts.length ≤ 100000000) :
  Calls Try.prog 24 ([.pointer (some ⟨b0, 0, none⟩)] : List Value).toArray w fun e w' => RetP (fun k => k = b0) wB b0 en 0 (okP w) (programP en ts) w e w' := by
 have htl := hts.lenL
 have hR := Fr.refl (fun k => k = b0) w
 have hB := hB0
 refine At.enter (N := 40) Try.func24 rfl rfl (by simp) [(0, .pointer (some ⟨b0, 0, none⟩))] (by simp) ?_
 refine .seq (.region ?_)
 refine At.alloc ze37 rfl (fun b1 w1 F1 => ?_)
 have n_b0_b1 : b0 ≠ b1 := Nat.ne_of_lt (F1.lt hb0)
 have gb1 := Nat.le_trans hR.size (Nat.le_of_eq F1.eq.symm)
 replace hb0 := F1.old hb0
 have hb1 : w1.heap[b1]? = some (.cells #[zN, zN, zI, zI, zS, zS, zI, zN, zN, zI, zS, zI, zN, zN, zI, zN, zI, zI, zS, zI, zN, zN, zI] 37) := F1.new
 replace hR := hR.freshF F1
 replace hB := Fr.below hR hB0 hB0.size hSge
 refine .ops0 (.thenN (.seq (.block ?_)))
 refine At.loop (List Tk × Value × Nat × Value × List Eff × List SEff × Value × List Dat × List SDat) (fun (us, vr, f, ve, le, xe, vd, ld, xd) => [(0, .pointer (some ⟨b0, 0, none⟩)), (2, .pointer (some ⟨b1, 0, none⟩))]) (fun (us, vr, f, ve, le, xe, vd, ld, xd) w2 => Fr (fun k => k = b0) w w2 ∧ w2.heap[b0]? = some (.cells #[vr, .int .i64 en, zI] 81) ∧ w2.heap[b1]? = some (.cells #[ve, vd, zI, zI, zS, zS, zI, zN, zN, zI, zS, zI, zN, zN, zI, zN, zI, zI, zS, zI, zN, zN, zI] 37) ∧ OwnR 55 2 Eff.cs w2 ve le ∧ OwnR 66 2 Dat.cs w2 vd ld ∧ Xs kEff [Value.ownBlock ve, Value.ownBlock vd, some b0, some b1] w2 le ∧ Xs kDat [Value.ownBlock ve, Value.ownBlock vd, some b0, some b1] w2 ld ∧ (RowsAt wB vr 4 (us.map Tk.cs)) ∧ (programP en ts = (declP en f xe xd us).bind fun p us => (exprP en 201 us).bind fun b us => bif decide (us = []) then .ok ⟨p.1, p.2, b⟩ us else failP en us) ∧ (us.length < f) ∧ (∀ g, Value.ownBlock ve = some g → w.heap.size ≤ g) ∧ (∀ g, Value.ownBlock vd = some g → w.heap.size ≤ g) ∧ (All2 (rE w) xe le) ∧ (All2 (rD w) xd ld) ∧ (le.length + ld.length + us.length ≤ ts.length)) (fun (us, vr, f, ve, le, xe, vd, ld, xd) => f) (ts, v, (ts.length + 1), zN, [], [], zN, [], []) (Sub.cons rfl (Sub.cons rfl Sub.nil)) ⟨hR, hb0, hb1, OwnR.nil 55 2 Eff.cs _, OwnR.nil 66 2 Dat.cs _, (Xs.nil _ _ _), (Xs.nil _ _ _), (hts), (rfl), (Nat.lt_succ_self _), (fun g h => by cases h), (fun g h => by cases h), (All2.nil), (All2.nil), (by simp)⟩ (fun gh w2 hI => ?_)
 obtain ⟨us, vr, f, ve, le, xe, vd, ld, xd⟩ := gh
 clear hR hB hb0 hb1
 obtain ⟨hR, hb0, hb1, hOe, hOd, hXe, hXd, hus, hs, hfl, gOe, gOd, hAe, hAd, hln⟩ := hI
 have hB := Fr.below hR hB0 hB0.size hSge
 show At _ _ [(0, .pointer (some ⟨b0, 0, none⟩)), (2, .pointer (some ⟨b1, 0, none⟩))] _ _
 refine .seq (.seq (.region (.move rfl rfl (.nilCheck rfl rfl (.fieldAddr rfl fo81_0 rfl ?_)))))
 refine At.buildSlice (xs := [.const (.string (⟨#[101, 102, 102, 101, 99, 116]⟩ : ByteArray)), .const (.string (⟨#[100, 97, 116, 97]⟩ : ByteArray))]) rfl rfl el29 sz9 ze9 (by intro v hv; simp only [List.mem_cons, List.not_mem_nil, or_false] at hv; rcases hv with rfl | rfl <;> first | rfl | simp [Value.cells]) rfl (by decide) rfl (fun b2 w3 F2 => ?_)
 have n_b0_b2 : b0 ≠ b2 := Nat.ne_of_lt (F2.lt hb0)
 have n_b1_b2 : b1 ≠ b2 := Nat.ne_of_lt (F2.lt hb1)
 have gb2 := Nat.le_trans hR.size (Nat.le_of_eq F2.eq.symm)
 replace hb0 := F2.old hb0
 replace hb1 := F2.old hb1
 replace hOe := hOe.fresh F2
 replace hOd := hOd.fresh F2
 replace hXe := Xs.fresh hXe F2
 replace hXd := Xs.fresh hXd F2
 have hb2 : w3.heap[b2]? = some (.cells #[.string (⟨#[101, 102, 102, 101, 99, 116]⟩ : ByteArray), .string (⟨#[100, 97, 116, 97]⟩ : ByteArray)] 9) := F2.new
 replace hR := hR.freshF F2
 replace hB := Fr.below hR hB0 hB0.size hSge
 refine At.call en43 rfl rfl (is_any us vr (.slice (some ⟨b2, 0, none⟩) 2 2) ([(⟨#[101, 102, 102, 101, 99, 116]⟩ : ByteArray), (⟨#[100, 97, 116, 97]⟩ : ByteArray)]) _ ((hus).keep hB) hb0 ((StrsAt.own (ss := [(⟨#[101, 102, 102, 101, 99, 116]⟩ : ByteArray), (⟨#[100, 97, 116, 97]⟩ : ByteArray)]) hb2 rfl (by decide) : StrsAt _ (.slice (some ⟨b2, 0, none⟩) 2 2) [(⟨#[101, 102, 102, 101, 99, 116]⟩ : ByteArray), (⟨#[100, 97, 116, 97]⟩ : ByteArray)]))) (fun e w4 hR' => ?_)
 obtain ⟨rfl, hbl1⟩ := hR'
 refine ⟨_, rfl, ?_⟩
 replace hb0 := Below.old hbl1 hb0
 replace hb1 := Below.old hbl1 hb1
 replace hb2 := Below.old hbl1 hb2
 replace hOe := hOe.below hbl1
 replace hOd := hOd.below hbl1
 replace hXe := Xs.below hXe hbl1
 replace hXd := Xs.below hXd hbl1
 replace hR := hR.callF hbl1
 replace hB := Fr.below hR hB0 hB0.size hSge
 refine .ops0 (.thenN ?_)
 refine At.cond (b := (isK en us ([(⟨#[101, 102, 102, 101, 99, 116]⟩ : ByteArray), (⟨#[100, 97, 116, 97]⟩ : ByteArray)]))) rfl (fun hc1 => ?_) (fun hc1 => ?_)
 ·skip
  refine .skip (.thenN (.block (.seq (.region (.move rfl rfl (.nilCheck rfl rfl (.fieldAddr rfl fo81_0 rfl ?_)))))))
  refine At.buildSlice (xs := [.const (.string (⟨#[101, 102, 102, 101, 99, 116]⟩ : ByteArray))]) rfl rfl el29 sz9 ze9 (by intro v hv; simp only [List.mem_cons, List.not_mem_nil, or_false] at hv; rcases hv with rfl <;> first | rfl | simp [Value.cells]) rfl (by decide) rfl (fun b3 w5 F3 => ?_)
  have n_b0_b3 : b0 ≠ b3 := Nat.ne_of_lt (F3.lt hb0)
  have n_b1_b3 : b1 ≠ b3 := Nat.ne_of_lt (F3.lt hb1)
  have n_b2_b3 : b2 ≠ b3 := Nat.ne_of_lt (F3.lt hb2)
  have gb3 := Nat.le_trans hR.size (Nat.le_of_eq F3.eq.symm)
  replace hb0 := F3.old hb0
  replace hb1 := F3.old hb1
  replace hb2 := F3.old hb2
  replace hOe := hOe.fresh F3
  replace hOd := hOd.fresh F3
  replace hXe := Xs.fresh hXe F3
  replace hXd := Xs.fresh hXd F3
  have hb3 : w5.heap[b3]? = some (.cells #[.string (⟨#[101, 102, 102, 101, 99, 116]⟩ : ByteArray)] 9) := F3.new
  replace hR := hR.freshF F3
  replace hB := Fr.below hR hB0 hB0.size hSge
  refine At.call en43 rfl rfl (is_any us vr (.slice (some ⟨b3, 0, none⟩) 1 1) ([(⟨#[101, 102, 102, 101, 99, 116]⟩ : ByteArray)]) _ ((hus).keep hB) hb0 ((StrsAt.own (ss := [(⟨#[101, 102, 102, 101, 99, 116]⟩ : ByteArray)]) hb3 rfl (by decide) : StrsAt _ (.slice (some ⟨b3, 0, none⟩) 1 1) [(⟨#[101, 102, 102, 101, 99, 116]⟩ : ByteArray)]))) (fun e w6 hR' => ?_)
  obtain ⟨rfl, hbl2⟩ := hR'
  refine ⟨_, rfl, ?_⟩
  replace hb0 := Below.old hbl2 hb0
  replace hb1 := Below.old hbl2 hb1
  replace hb2 := Below.old hbl2 hb2
  replace hb3 := Below.old hbl2 hb3
  replace hOe := hOe.below hbl2
  replace hOd := hOd.below hbl2
  replace hXe := Xs.below hXe hbl2
  replace hXd := Xs.below hXd hbl2
  replace hR := hR.callF hbl2
  replace hB := Fr.below hR hB0 hB0.size hSge
  refine .ops0 (.thenN ?_)
  refine At.cond (b := (isK en us ([(⟨#[101, 102, 102, 101, 99, 116]⟩ : ByteArray)]))) rfl (fun hc2 => ?_) (fun hc2 => ?_)
  ·skip
   refine .drawG (n := 8) mixed (by kernel_rfl) rfl (PanicOk.block (PanicOk.then (PanicOk.block (PanicOk.then PanicOk.body)))) ?_
   have hR := Fr.drewF hR
   have hB := Below.drewB hB
   have hb0 : _ := (show w6.drew.heap[b0]? = _ from hb0)
   have hb1 : _ := (show w6.drew.heap[b1]? = _ from hb1)
   have hb2 : _ := (show w6.drew.heap[b2]? = _ from hb2)
   have hb3 : _ := (show w6.drew.heap[b3]? = _ from hb3)
   have hOe := hOe.drew
   have hOd := hOd.drew
   have hXe := Xs.drew hXe
   have hXd := Xs.drew hXd
   refine At.wpcS (i := 0) (d := 13) (.pointer (some ⟨b1, 0 + 0, none⟩)) (by kernel_rfl) rfl rfl rfl (fun Lx => ?_) ?_
   ·skip
    refine .fieldAddr rfl fo37_0 rfl (.ops0 ?_)
    exact fun a ha => ⟨ha, rfl⟩
   refine At.wpcS (i := 1) (d := 14) (ve) (by kernel_rfl) rfl rfl rfl (fun Lx => ?_) ?_
   ·skip
    refine .load rfl (Ld.ownCell ag24 hb1 rfl) rfl (.ops0 ?_)
    exact fun a ha => ⟨ha, rfl⟩
   refine At.wpcS (i := 2) (d := 15) (.pointer (some ⟨b0, 0, none⟩)) (by kernel_rfl) rfl rfl rfl (fun Lx => ?_) ?_
   ·skip
    refine .move rfl rfl (.ops0 ?_)
    exact fun a ha => ⟨ha, rfl⟩
   refine At.wpcE [3] (by kernel_rfl) (by kernel_rfl) (.cons [0, 1] rfl (by kernel_rfl) ?_ .nil)
   have hml1 : MLt w6.drew.heap.size [some b0, some b1, some b2, some b3, Value.ownBlock ve, Value.ownBlock vd] := (MLt.blk hb0 (MLt.blk hb1 (MLt.blk hb2 (MLt.blk hb3 (MLt.own hOe (MLt.own hOd (MLt.nil _)))))))
   refine At.callP en44 rfl rfl (effect_any us vr _ hB hSge hus hb0 (by have hz := hbig; have := hln; omega)) (fun e wp1 hR' => ?_)
   rcases hR'.cases.symm with ⟨ba, bc, hq1, rfl, hF1, hbb⟩ | ⟨x1, us1, val1, vr1, hq1, rfl, hF1, hts1, hbo1, ho1⟩
   ·exact .inr ⟨_, rfl, (Pk.norm (Pk.block (Pk.then (Pk.block (Pk.then (Pk.body (RetP.bad (by obtain ⟨q, rfl⟩ : ∃ q, f = q + 1 := ⟨f - 1, by omega⟩; rw [hs, declP]; simp only [failP, SB, hc1, hc2, hq1] <;> rfl) (Fr.then hR hF1 (fun k hk => .inl hk)) hbb)))))))⟩
   refine .inl ⟨_, rfl, ?_⟩
   replace hb1 := Fr.oldB hF1 hb1 (n_b0_b1.symm)
   replace hb2 := Fr.oldB hF1 hb2 (n_b0_b2.symm)
   replace hb3 := Fr.oldB hF1 hb3 (n_b0_b3.symm)
   replace hOe := OwnR.frB hOe hF1 hb0 rfl
   replace hOd := OwnR.frB hOd hF1 hb0 rfl
   replace hXe := Xs.frS hXe hF1 (by rintro k rfl; simp)
   replace hXd := Xs.frS hXd hF1 (by rintro k rfl; simp)
   replace hb0 := hbo1
   have hsz1 := hR.size
   replace hR := Fr.then hR hF1 (fun k hk => .inl hk)
   replace hB := Fr.below hR hB0 hB0.size hSge
   obtain ⟨tm1, rfl, htm1, hsh1, hblk1⟩ := ho1
   have hx1 := Xs.of_new (B := 0) (M := [some b0, some b1, some b2, some b3, Value.ownBlock ve, Value.ownBlock vd]) (K := kEff) htm1 (fun b hb => .inr (hblk1 b hb)) (fun _ _ => Nat.zero_le _) hml1
   have hmt1 : rE w x1 tm1 := ⟨hsh1, fun b hb => Nat.le_trans hsz1 (hblk1 b hb)⟩
   refine .ops0 ?_
   refine At.wpcN (.cons rfl rfl rfl rfl (fun Lx => ?_) (.cons rfl rfl rfl rfl (fun Lx => ?_) .nil)) ?_
   ·skip
    refine .fieldAddr rfl fo37_0 rfl (.ops0 ?_)
    exact fun a ha => ⟨ha, rfl⟩
   ·skip
    refine .load rfl (Ld.ownCell ag24 hb1 rfl) rfl (.ops0 ?_)
    exact fun a ha => ⟨ha, rfl⟩
   refine At.wpcE [4] (by kernel_rfl) (by kernel_rfl) (.cons [0, 1] rfl (by kernel_rfl) ?_ .nil)
   refine At.buildSlice (xs := [.tmp 16]) rfl rfl el24 sz55 ze55 (by intro v hv; simp only [List.mem_cons, List.not_mem_nil, or_false] at hv; rcases hv with rfl <;> first | rfl | simp [Value.cells, ((Xs.one hx1)).size]) rfl (by decide) rfl (fun b4 w7 F4 => ?_)
   have q_hOe_b4 : some b4 ≠ Value.ownBlock ve := Own.neFresh hOe F4
   have n_b0_b4 : b0 ≠ b4 := Nat.ne_of_lt (F4.lt hb0)
   have n_b1_b4 : b1 ≠ b4 := Nat.ne_of_lt (F4.lt hb1)
   have n_b2_b4 : b2 ≠ b4 := Nat.ne_of_lt (F4.lt hb2)
   have n_b3_b4 : b3 ≠ b4 := Nat.ne_of_lt (F4.lt hb3)
   have gb4 := Nat.le_trans hR.size (Nat.le_of_eq F4.eq.symm)
   replace hb0 := F4.old hb0
   replace hb1 := F4.old hb1
   replace hb2 := F4.old hb2
   replace hb3 := F4.old hb3
   replace hOe := hOe.fresh F4
   replace hOd := hOd.fresh F4
   replace hXe := Xs.fresh hXe F4
   replace hXd := Xs.fresh hXd F4
   replace hx1 := Xs.fresh hx1 F4
   have hb4 : w7.heap[b4]? = some (.cells (([tm1].map Eff.cs).flatMap (·.toList)).toArray 55) := F4.new
   replace hR := hR.freshF F4
   replace hB := Fr.below hR hB0 hB0.size hSge
   refine .ops0 ?_
   refine At.wpcN (.cons rfl rfl rfl rfl (fun Lx => ?_) (.cons rfl rfl rfl rfl (fun Lx => ?_) .nil)) ?_
   ·skip
    refine .fieldAddr rfl fo37_0 rfl (.ops0 ?_)
    exact fun a ha => ⟨ha, rfl⟩
   ·skip
    refine .load rfl (Ld.ownCell ag24 hb1 rfl) rfl (.ops0 ?_)
    exact fun a ha => ⟨ha, rfl⟩
   refine At.wpcE [5] (by kernel_rfl) (by kernel_rfl) (.cons [] rfl (by kernel_rfl) ?_ .nil)
   refine At.appendR (f := Eff.cs) rfl rfl el24 el24 sz55 by55 ze55 rfl hOe (rows_own (f := Eff.cs) (m := 1) hb4 (fun u hu => ((mem1 (Q := fun u => EffOk w7 u) (((Xs.one hx1)).keep (Below.refl _ _))) u hu).size) rfl (by decide)) (by decide) (fun u hu => (((mem1 (Q := fun u => EffOk w7 u) (((Xs.one hx1)).keep (Below.refl _ _)))) u hu).one) (by first | omega | (simp; omega)) (by first | omega | (simp; omega)) rfl (fun va1 w8 hO1 hA1 => ?_)
   replace hO1 : OwnR 55 2 Eff.cs w8 va1 (le ++ [tm1]) := hO1
   replace hb0 := hA1.old hb0 (hOe.neT hb0 rfl)
   replace hb1 := hA1.old hb1 (hOe.neT hb1 rfl)
   replace hb2 := hA1.old hb2 (hOe.neT hb2 rfl)
   replace hb3 := hA1.old hb3 (hOe.neT hb3 rfl)
   clear hb4
   replace hOd := OwnR.keepT hA1 hOe hOd rfl
   replace hXe := Xs.app hXe hA1 (.inr (by simp))
   replace hXd := Xs.app hXd hA1 (.inr (by simp))
   replace hx1 := Xs.app hx1 hA1 (.inr (by simp))
   have ghO1 := hA1.ge hR.size gOe
   replace hR := hR.appF hA1 (fun g hg => .inr (gOe g hg))
   replace hB := Fr.below hR hB0 hB0.size hSge
   refine .ops0 (.wpcN .nil ?_)
   refine At.wpcS (i := 6) (d := 19) (.pointer (some ⟨b1, 0 + 0, none⟩)) (by kernel_rfl) rfl rfl rfl (fun Lx => ?_) ?_
   ·skip
    refine .fieldAddr rfl fo37_0 rfl (.ops0 ?_)
    exact fun a ha => ⟨ha, rfl⟩
   refine At.wpcE [7] (by kernel_rfl) (by kernel_rfl) (.cons [] rfl (by kernel_rfl) ?_ .nil)
   refine At.store1 rfl rfl hb1 sz24 (by simp) (hO1).one (fun w9 S1 => ?_)
   replace hb0 := S1.other hb0 n_b0_b1
   replace hb2 := S1.other hb2 n_b1_b2.symm
   replace hb3 := S1.other hb3 n_b1_b3.symm
   replace hOd := hOd.set S1 (hOd.neT hb1 rfl)
   replace hO1 := hO1.set S1 (hO1.neT hb1 rfl)
   replace hXe := Xs.set hXe S1 (by simp)
   replace hXd := Xs.set hXd S1 (by simp)
   replace hx1 := Xs.set hx1 S1 (by simp)
   replace hb1 : w9.heap[b1]? = some (.cells #[va1, vd, zI, zI, zS, zS, zI, zN, zN, zI, zS, zI, zN, zN, zI, zN, zI, zI, zS, zI, zN, zN, zI] 37) := S1.new
   replace hR := hR.setF S1 (.inr gb1)
   replace hB := Fr.below hR hB0 hB0.size hSge
   refine .ops0 (.wpcN .nil (.wpcZ (.inN (.thenN ?_))))
   exact fun act_ hact_ => ⟨(us1, vr1, (f - 1), va1, (le ++ [tm1]), (xe ++ [x1]), vd, ld, xd), hact_.sub (Sub.cons rfl (Sub.cons rfl Sub.nil)), ⟨hR, hb0, hb1, hO1, hOd, (Xs.append (Xs.weaken (M' := [Value.ownBlock va1, Value.ownBlock vd, some b0, some b1]) hXe (SubM.cons (.head _) (SubM.cons (.tail _ (.tail _ (.tail _ (.tail _ (.tail _ (.head _)))))) (SubM.cons (.tail _ (.tail _ (.tail _ (.tail _ (.tail _ (.tail _ (.head _))))))) (SubM.cons (.tail _ (.tail _ (.tail _ (.tail _ (.tail _ (.tail _ (.tail _ (.head _)))))))) SubM.nil))))) (Xs.weaken (M' := [Value.ownBlock va1, Value.ownBlock vd, some b0, some b1]) hx1 (SubM.cons (.head _) (SubM.cons (.tail _ (.tail _ (.tail _ (.tail _ (.tail _ (.tail _ (.tail _ (.head _)))))))) (SubM.cons (.tail _ (.tail _ (.head _))) (SubM.cons (.tail _ (.tail _ (.tail _ (.head _)))) SubM.nil)))))), (Xs.weaken (M' := [Value.ownBlock va1, Value.ownBlock vd, some b0, some b1]) hXd (SubM.cons (.head _) (SubM.cons (.tail _ (.tail _ (.tail _ (.tail _ (.tail _ (.head _)))))) (SubM.cons (.tail _ (.tail _ (.tail _ (.tail _ (.tail _ (.tail _ (.head _))))))) (SubM.cons (.tail _ (.tail _ (.tail _ (.tail _ (.tail _ (.tail _ (.tail _ (.head _)))))))) SubM.nil))))), (hts1), (by obtain ⟨q, rfl⟩ : ∃ q, f = q + 1 := ⟨f - 1, by omega⟩; rw [hs, declP]; simp only [cond_true, hc1, hc2, hq1, cond_false, PR.bind_ok]; rfl), (by have := hln; have := PR.Sh.of (eff_sh en us) hq1; omega), (ghO1), (gOd), ((All2.snoc hAe hmt1)), (hAd), (by have := hln; have := PR.Sh.of (eff_sh en us) hq1; simp; omega)⟩, by first | omega | (dsimp only; omega)⟩
  ·skip
   refine .drawG (n := 8) mixed (by kernel_rfl) rfl (PanicOk.block (PanicOk.then (PanicOk.block (PanicOk.then PanicOk.body)))) ?_
   have hR := Fr.drewF hR
   have hB := Below.drewB hB
   have hb0 : _ := (show w6.drew.heap[b0]? = _ from hb0)
   have hb1 : _ := (show w6.drew.heap[b1]? = _ from hb1)
   have hb2 : _ := (show w6.drew.heap[b2]? = _ from hb2)
   have hb3 : _ := (show w6.drew.heap[b3]? = _ from hb3)
   have hOe := hOe.drew
   have hOd := hOd.drew
   have hXe := Xs.drew hXe
   have hXd := Xs.drew hXd
   refine At.wpcS (i := 0) (d := 20) (.pointer (some ⟨b1, 0 + 1, none⟩)) (by kernel_rfl) rfl rfl rfl (fun Lx => ?_) ?_
   ·skip
    refine .fieldAddr rfl fo37_1 rfl (.ops0 ?_)
    exact fun a ha => ⟨ha, rfl⟩
   refine At.wpcS (i := 1) (d := 21) (vd) (by kernel_rfl) rfl rfl rfl (fun Lx => ?_) ?_
   ·skip
    refine .load rfl (Ld.ownCell ag25 hb1 rfl) rfl (.ops0 ?_)
    exact fun a ha => ⟨ha, rfl⟩
   refine At.wpcS (i := 2) (d := 22) (.pointer (some ⟨b0, 0, none⟩)) (by kernel_rfl) rfl rfl rfl (fun Lx => ?_) ?_
   ·skip
    refine .move rfl rfl (.ops0 ?_)
    exact fun a ha => ⟨ha, rfl⟩
   refine At.wpcE [3] (by kernel_rfl) (by kernel_rfl) (.cons [0, 1] rfl (by kernel_rfl) ?_ .nil)
   have hml2 : MLt w6.drew.heap.size [some b0, some b1, some b2, some b3, Value.ownBlock ve, Value.ownBlock vd] := (MLt.blk hb0 (MLt.blk hb1 (MLt.blk hb2 (MLt.blk hb3 (MLt.own hOe (MLt.own hOd (MLt.nil _)))))))
   refine At.callP en45 rfl rfl (data_any us vr _ hB hSge hus hb0 (by have hz := hbig; have := hln; omega)) (fun e wp2 hR' => ?_)
   rcases hR'.cases.symm with ⟨ba, bc, hq2, rfl, hF2, hbb⟩ | ⟨x2, us2, val2, vr2, hq2, rfl, hF2, hts2, hbo2, ho2⟩
   ·exact .inr ⟨_, rfl, (Pk.norm (Pk.block (Pk.then (Pk.block (Pk.then (Pk.body (RetP.bad (by obtain ⟨q, rfl⟩ : ∃ q, f = q + 1 := ⟨f - 1, by omega⟩; rw [hs, declP]; simp only [failP, SB, hc1, hc2, hq2] <;> rfl) (Fr.then hR hF2 (fun k hk => .inl hk)) hbb)))))))⟩
   refine .inl ⟨_, rfl, ?_⟩
   replace hb1 := Fr.oldB hF2 hb1 (n_b0_b1.symm)
   replace hb2 := Fr.oldB hF2 hb2 (n_b0_b2.symm)
   replace hb3 := Fr.oldB hF2 hb3 (n_b0_b3.symm)
   replace hOe := OwnR.frB hOe hF2 hb0 rfl
   replace hOd := OwnR.frB hOd hF2 hb0 rfl
   replace hXe := Xs.frS hXe hF2 (by rintro k rfl; simp)
   replace hXd := Xs.frS hXd hF2 (by rintro k rfl; simp)
   replace hb0 := hbo2
   have hsz2 := hR.size
   replace hR := Fr.then hR hF2 (fun k hk => .inl hk)
   replace hB := Fr.below hR hB0 hB0.size hSge
   obtain ⟨tm2, rfl, htm2, hsh2, hblk2⟩ := ho2
   have hx2 := Xs.of_new (B := 0) (M := [some b0, some b1, some b2, some b3, Value.ownBlock ve, Value.ownBlock vd]) (K := kDat) htm2 (fun b hb => .inr (hblk2 b hb)) (fun _ _ => Nat.zero_le _) hml2
   have hmt2 : rD w x2 tm2 := ⟨hsh2, fun b hb => Nat.le_trans hsz2 (hblk2 b hb)⟩
   refine .ops0 ?_
   refine At.wpcN (.cons rfl rfl rfl rfl (fun Lx => ?_) (.cons rfl rfl rfl rfl (fun Lx => ?_) .nil)) ?_
   ·skip
    refine .fieldAddr rfl fo37_1 rfl (.ops0 ?_)
    exact fun a ha => ⟨ha, rfl⟩
   ·skip
    refine .load rfl (Ld.ownCell ag25 hb1 rfl) rfl (.ops0 ?_)
    exact fun a ha => ⟨ha, rfl⟩
   refine At.wpcE [4] (by kernel_rfl) (by kernel_rfl) (.cons [0, 1] rfl (by kernel_rfl) ?_ .nil)
   refine At.buildSlice (xs := [.tmp 23]) rfl rfl el25 sz66 ze66 (by intro v hv; simp only [List.mem_cons, List.not_mem_nil, or_false] at hv; rcases hv with rfl <;> first | rfl | simp [Value.cells, ((Xs.one hx2)).size]) rfl (by decide) rfl (fun b5 w10 F5 => ?_)
   have q_hOd_b5 : some b5 ≠ Value.ownBlock vd := Own.neFresh hOd F5
   have n_b0_b5 : b0 ≠ b5 := Nat.ne_of_lt (F5.lt hb0)
   have n_b1_b5 : b1 ≠ b5 := Nat.ne_of_lt (F5.lt hb1)
   have n_b2_b5 : b2 ≠ b5 := Nat.ne_of_lt (F5.lt hb2)
   have n_b3_b5 : b3 ≠ b5 := Nat.ne_of_lt (F5.lt hb3)
   have gb5 := Nat.le_trans hR.size (Nat.le_of_eq F5.eq.symm)
   replace hb0 := F5.old hb0
   replace hb1 := F5.old hb1
   replace hb2 := F5.old hb2
   replace hb3 := F5.old hb3
   replace hOe := hOe.fresh F5
   replace hOd := hOd.fresh F5
   replace hXe := Xs.fresh hXe F5
   replace hXd := Xs.fresh hXd F5
   replace hx2 := Xs.fresh hx2 F5
   have hb5 : w10.heap[b5]? = some (.cells (([tm2].map Dat.cs).flatMap (·.toList)).toArray 66) := F5.new
   replace hR := hR.freshF F5
   replace hB := Fr.below hR hB0 hB0.size hSge
   refine .ops0 ?_
   refine At.wpcN (.cons rfl rfl rfl rfl (fun Lx => ?_) (.cons rfl rfl rfl rfl (fun Lx => ?_) .nil)) ?_
   ·skip
    refine .fieldAddr rfl fo37_1 rfl (.ops0 ?_)
    exact fun a ha => ⟨ha, rfl⟩
   ·skip
    refine .load rfl (Ld.ownCell ag25 hb1 rfl) rfl (.ops0 ?_)
    exact fun a ha => ⟨ha, rfl⟩
   refine At.wpcE [5] (by kernel_rfl) (by kernel_rfl) (.cons [] rfl (by kernel_rfl) ?_ .nil)
   refine At.appendR (f := Dat.cs) rfl rfl el25 el25 sz66 by66 ze66 rfl hOd (rows_own (f := Dat.cs) (m := 1) hb5 (fun u hu => ((mem1 (Q := fun u => DatOk w10 u) (((Xs.one hx2)).keep (Below.refl _ _))) u hu).size) rfl (by decide)) (by decide) (fun u hu => (((mem1 (Q := fun u => DatOk w10 u) (((Xs.one hx2)).keep (Below.refl _ _)))) u hu).one) (by first | omega | (simp; omega)) (by first | omega | (simp; omega)) rfl (fun va2 w11 hO2 hA2 => ?_)
   replace hO2 : OwnR 66 2 Dat.cs w11 va2 (ld ++ [tm2]) := hO2
   replace hb0 := hA2.old hb0 (hOd.neT hb0 rfl)
   replace hb1 := hA2.old hb1 (hOd.neT hb1 rfl)
   replace hb2 := hA2.old hb2 (hOd.neT hb2 rfl)
   replace hb3 := hA2.old hb3 (hOd.neT hb3 rfl)
   clear hb5
   replace hOe := OwnR.keepT hA2 hOd hOe rfl
   replace hXe := Xs.app hXe hA2 (.inr (by simp))
   replace hXd := Xs.app hXd hA2 (.inr (by simp))
   replace hx2 := Xs.app hx2 hA2 (.inr (by simp))
   have ghO2 := hA2.ge hR.size gOd
   replace hR := hR.appF hA2 (fun g hg => .inr (gOd g hg))
   replace hB := Fr.below hR hB0 hB0.size hSge
   refine .ops0 (.wpcN .nil ?_)
   refine At.wpcS (i := 6) (d := 26) (.pointer (some ⟨b1, 0 + 1, none⟩)) (by kernel_rfl) rfl rfl rfl (fun Lx => ?_) ?_
   ·skip
    refine .fieldAddr rfl fo37_1 rfl (.ops0 ?_)
    exact fun a ha => ⟨ha, rfl⟩
   refine At.wpcE [7] (by kernel_rfl) (by kernel_rfl) (.cons [] rfl (by kernel_rfl) ?_ .nil)
   refine At.store1 rfl rfl hb1 sz25 (by simp) (hO2).one (fun w12 S2 => ?_)
   replace hb0 := S2.other hb0 n_b0_b1
   replace hb2 := S2.other hb2 n_b1_b2.symm
   replace hb3 := S2.other hb3 n_b1_b3.symm
   replace hOe := hOe.set S2 (hOe.neT hb1 rfl)
   replace hO2 := hO2.set S2 (hO2.neT hb1 rfl)
   replace hXe := Xs.set hXe S2 (by simp)
   replace hXd := Xs.set hXd S2 (by simp)
   replace hx2 := Xs.set hx2 S2 (by simp)
   replace hb1 : w12.heap[b1]? = some (.cells #[ve, va2, zI, zI, zS, zS, zI, zN, zN, zI, zS, zI, zN, zN, zI, zN, zI, zI, zS, zI, zN, zN, zI] 37) := S2.new
   replace hR := hR.setF S2 (.inr gb1)
   replace hB := Fr.below hR hB0 hB0.size hSge
   refine .ops0 (.wpcN .nil (.wpcZ (.inN (.thenN ?_))))
   exact fun act_ hact_ => ⟨(us2, vr2, (f - 1), ve, le, xe, va2, (ld ++ [tm2]), (xd ++ [x2])), hact_.sub (Sub.cons rfl (Sub.cons rfl Sub.nil)), ⟨hR, hb0, hb1, hOe, hO2, (Xs.weaken (M' := [Value.ownBlock ve, Value.ownBlock va2, some b0, some b1]) hXe (SubM.cons (.tail _ (.tail _ (.tail _ (.tail _ (.head _))))) (SubM.cons (.head _) (SubM.cons (.tail _ (.tail _ (.tail _ (.tail _ (.tail _ (.tail _ (.head _))))))) (SubM.cons (.tail _ (.tail _ (.tail _ (.tail _ (.tail _ (.tail _ (.tail _ (.head _)))))))) SubM.nil))))), (Xs.append (Xs.weaken (M' := [Value.ownBlock ve, Value.ownBlock va2, some b0, some b1]) hXd (SubM.cons (.tail _ (.tail _ (.tail _ (.tail _ (.head _))))) (SubM.cons (.head _) (SubM.cons (.tail _ (.tail _ (.tail _ (.tail _ (.tail _ (.tail _ (.head _))))))) (SubM.cons (.tail _ (.tail _ (.tail _ (.tail _ (.tail _ (.tail _ (.tail _ (.head _)))))))) SubM.nil))))) (Xs.weaken (M' := [Value.ownBlock ve, Value.ownBlock va2, some b0, some b1]) hx2 (SubM.cons (.tail _ (.tail _ (.tail _ (.tail _ (.tail _ (.tail _ (.head _))))))) (SubM.cons (.head _) (SubM.cons (.tail _ (.tail _ (.head _))) (SubM.cons (.tail _ (.tail _ (.tail _ (.head _)))) SubM.nil)))))), (hts2), (by obtain ⟨q, rfl⟩ : ∃ q, f = q + 1 := ⟨f - 1, by omega⟩; rw [hs, declP]; simp only [cond_true, hc1, hc2, hq2, cond_false, PR.bind_ok]; rfl), (by have := hln; have := PR.Sh.of (dat_sh en us) hq2; omega), (gOe), (ghO2), (hAe), ((All2.snoc hAd hmt2)), (by have := hln; have := PR.Sh.of (dat_sh en us) hq2; simp; omega)⟩, by first | omega | (dsimp only; omega)⟩
 ·skip
  refine .exit (.thenE (.thenE (.inE (.thenN (.seq (.region (.move rfl rfl ?_)))))))
  have hml3 : MLt w4.heap.size [some b0, some b1, some b2, Value.ownBlock ve, Value.ownBlock vd] := (MLt.blk hb0 (MLt.blk hb1 (MLt.blk hb2 (MLt.own hOe (MLt.own hOd (MLt.nil _))))))
  refine At.callP en46 rfl rfl (expr_any en 201 0 (by decide) (by decide) wB b0 us vr _ hB hSge hus hb0 (by have hz := hbig; have := hln; omega)) (fun e wp3 hR' => ?_)
  rcases hR'.cases.symm with ⟨ba, bc, hq3, rfl, hF3, hbb⟩ | ⟨x3, us3, val3, vr3, hq3, rfl, hF3, hts3, hbo3, ho3⟩
  ·exact .inr ⟨_, rfl, (Pk.then (Pk.body (RetP.bad (by obtain ⟨q, rfl⟩ : ∃ q, f = q + 1 := ⟨f - 1, by omega⟩; rw [hs, declP]; simp only [failP, SB, hc1, hq3] <;> rfl) (Fr.then hR hF3 (fun k hk => .inl hk)) hbb)))⟩
  refine .inl ⟨_, rfl, ?_⟩
  replace hb1 := Fr.oldB hF3 hb1 (n_b0_b1.symm)
  replace hb2 := Fr.oldB hF3 hb2 (n_b0_b2.symm)
  replace hOe := OwnR.frB hOe hF3 hb0 rfl
  replace hOd := OwnR.frB hOd hF3 hb0 rfl
  replace hXe := Xs.frS hXe hF3 (by rintro k rfl; simp)
  replace hXd := Xs.frS hXd hF3 (by rintro k rfl; simp)
  replace hb0 := hbo3
  have hsz3 := hR.size
  replace hR := Fr.then hR hF3 (fun k hk => .inl hk)
  replace hB := Fr.below hR hB0 hB0.size hSge
  obtain ⟨tm3, rfl, htm3, hmt3⟩ := ho3
  have hx3 := Xs.of_new (B := 0) (M := [some b0, some b1, some b2, Value.ownBlock ve, Value.ownBlock vd]) (K := kTm) htm3 (fun b hb => .inr (hmt3.blk b hb)) (fun _ _ => Nat.zero_le _) hml3
  replace hmt3 := hmt3.mono hsz3
  refine .fieldAddr rfl fo37_2 rfl ?_
  have hsp1 : splice #[ve, vd, zI, zI, zS, zS, zI, zN, zN, zI, zS, zI, zN, zN, zI, zN, zI, zI, zS, zI, zN, zN, zI] 2 tm3.cs = (mkPr ve vd le ld tm3).cs := splice_arm rfl ((Xs.one hx3)).size rfl rfl
  refine At.storePart (cs := tm3.cs) rfl rfl hb1 (sz35.trans (congrArg some ((Xs.one hx3)).size.symm)) (by rw [((Xs.one hx3)).size]; first | decide | exact Nat.le_of_ble_eq_true rfl) ((Xs.one hx3)).one (fun w13 S3 => ?_)
  replace hb0 := S3.other hb0 n_b0_b1
  replace hb2 := S3.other hb2 n_b1_b2.symm
  replace hOe := hOe.set S3 (hOe.neT hb1 rfl)
  replace hOd := hOd.set S3 (hOd.neT hb1 rfl)
  replace hXe := Xs.set hXe S3 (by simp)
  replace hXd := Xs.set hXd S3 (by simp)
  replace hx3 := Xs.set hx3 S3 (by simp)
  replace hb1 : w13.heap[b1]? = some (.cells (mkPr ve vd le ld tm3).cs 37) := (by have q := S3.new; rw [hsp1] at q; exact q)
  replace hR := hR.setF S3 (.inr gb1)
  replace hB := Fr.below hR hB0 hB0.size hSge
  refine .ops0 (.thenN (.seq (.seq (.region (.move rfl rfl (.nilCheck rfl rfl (.fieldAddr rfl fo81_0 rfl (.fieldAddr rfl fo79_0 rfl (.load rfl (Ld.ownCell ag43 hb0 rfl) rfl (.lenSl rfl (hts3).okL el43 rfl (.gtr rfl rfl rfl (.ops0 (.thenN ?_)))))))))))))
  refine At.cond (b := decide (0 < (us3.length : Int))) rfl (fun hc3 => ?_) (fun hc3 => ?_)
  ·skip
   have hc3' := of_decide_eq_true hc3
   have hc3e : decide (us3 = []) = false := by cases hl : us3 with | nil => simp [hl] at hc3' | cons a b => simp
   refine .region (.move rfl rfl ?_)
   refine At.callP en47 rfl rfl (fail_any us3 vr3 (α := Unit) (fun _ _ _ => True) _ hB hSge hts3 hb0) (fun e w' hR' => ?_)
   obtain ⟨rfl, hF4, hbb⟩ := RetP.failed hR'
   exact .inr ⟨_, rfl, (Pk.then (Pk.body (RetP.bad (by obtain ⟨q, rfl⟩ : ∃ q, f = q + 1 := ⟨f - 1, by omega⟩; rw [hs, declP]; simp only [failP, SB, hc1, hc3, hq3, hc3e] <;> rfl) (Fr.then hR hF4 (fun k hk => .inl hk)) hbb)))⟩
  ·skip
   have hc3' := of_decide_eq_false hc3
   have hc3e : decide (us3 = []) = true := by cases hl : us3 with | nil => simp | cons a b => simp [hl] at hc3'
   refine .skip (.thenN (.seq (.region (.load rfl (Ld.own ag37 (sz37.trans (congrArg some ((mkPr_ok (OwnR.rows hOe (fun u hu => (((Xs.ok hXe)) u hu).size)) (OwnR.rows hOd (fun u hu => (((Xs.ok hXd)) u hu).size)) ((Xs.ok hXe)) ((Xs.ok hXd)) (Xs.one hx3))).size.symm)) hb1) rfl ?_))))
   refine At.storeAll rfl rfl hb1 (sz37.trans (congrArg some ((mkPr_ok (OwnR.rows hOe (fun u hu => (((Xs.ok hXe)) u hu).size)) (OwnR.rows hOd (fun u hu => (((Xs.ok hXd)) u hu).size)) ((Xs.ok hXe)) ((Xs.ok hXd)) (Xs.one hx3))).size.symm)) (((mkPr_ok (OwnR.rows hOe (fun u hu => (((Xs.ok hXe)) u hu).size)) (OwnR.rows hOd (fun u hu => (((Xs.ok hXd)) u hu).size)) ((Xs.ok hXe)) ((Xs.ok hXd)) (Xs.one hx3))).size.trans ((mkPr_ok (OwnR.rows hOe (fun u hu => (((Xs.ok hXe)) u hu).size)) (OwnR.rows hOd (fun u hu => (((Xs.ok hXd)) u hu).size)) ((Xs.ok hXe)) ((Xs.ok hXd)) (Xs.one hx3))).size.symm) ((mkPr_ok (OwnR.rows hOe (fun u hu => (((Xs.ok hXe)) u hu).size)) (OwnR.rows hOd (fun u hu => (((Xs.ok hXd)) u hu).size)) ((Xs.ok hXe)) ((Xs.ok hXd)) (Xs.one hx3))).one (fun w14 S4 => ?_)
   replace hb0 := S4.other hb0 n_b0_b1
   replace hb2 := S4.other hb2 n_b1_b2.symm
   replace hOe := hOe.set S4 (hOe.neT hb1 rfl)
   replace hOd := hOd.set S4 (hOd.neT hb1 rfl)
   replace hXe := Xs.set hXe S4 (by simp)
   replace hXd := Xs.set hXd S4 (by simp)
   replace hx3 := Xs.set hx3 S4 (by simp)
   replace hb1 : w14.heap[b1]? = some (.cells (mkPr ve vd le ld tm3).cs 37) := S4.new
   replace hR := hR.setF S4 (.inr gb1)
   replace hB := Fr.below hR hB0 hB0.size hSge
   refine .ops0 (.thenN (.retc (.doneR (ResV.cell rfl (Ld.own ag37 (sz37.trans (congrArg some ((mkPr_ok (OwnR.rows hOe (fun u hu => (((Xs.ok hXe)) u hu).size)) (OwnR.rows hOd (fun u hu => (((Xs.ok hXd)) u hu).size)) ((Xs.ok hXe)) ((Xs.ok hXd)) (Xs.one hx3))).size.symm)) hb1) ResV.nil) ?_)))
   exact RetP.ok (x := (⟨xe, xd, x3⟩ : SPr)) (by obtain ⟨q, rfl⟩ : ∃ q, f = q + 1 := ⟨f - 1, by omega⟩; rw [hs, declP]; simp only [failP, SB, hc1, hc3, hq3, hc3e] <;> rfl) hR hts3 hb0 (okP_made (OwnR.rows hOe (fun u hu => (((Xs.ok hXe)) u hu).size)) (OwnR.rows hOd (fun u hu => (((Xs.ok hXd)) u hu).size)) (Xs.ok hXe) (Xs.ok hXd) (Xs.one hx3) hAe hAd hmt3 (fun hn => OwnR.vbGe hOe gOe hn) (fun hn => OwnR.vbGe hOd gOd hn))
end Go.Proofs.Ytkjmjnddanhapaa
