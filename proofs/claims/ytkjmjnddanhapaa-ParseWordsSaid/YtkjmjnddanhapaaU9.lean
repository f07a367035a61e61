/-
 The walk of Parse. Written by a program of ours.
-/
import Derived.Test.YtkjmjnddanhapaaN9
set_option linter.unusedVariables false
set_option linter.unusedSimpArgs false
namespace Go.Proofs.Ytkjmjnddanhapaa
open Go.RowKit
theorem ag38 : aggB Try.prog 38 = some false := by kernel_rfl
theorem en15 : entB Try.prog 15 = true := by kernel_rfl
theorem en19 : entB Try.prog 19 = true := by kernel_rfl
theorem en23 : entB Try.prog 23 = true := by kernel_rfl
theorem en24 : entB Try.prog 24 = true := by kernel_rfl
theorem if20 : ifaceB Try.prog 20 = true := by kernel_rfl
theorem pl75 : plainB Try.prog 75 = true := by kernel_rfl
theorem sd37 : sizedB Try.prog 37 = true := by kernel_rfl
theorem sd79 : sizedB Try.prog 79 = true := by kernel_rfl
theorem sd81 : sizedB Try.prog 81 = true := by kernel_rfl
theorem sz38 : sizeB Try.prog 38 = some 1 := by kernel_rfl
theorem sz75 : sizeB Try.prog 75 = some 2 := by kernel_rfl
theorem ze38 : zeroB Try.prog 38 = some (.int .i64 0) := by kernel_rfl
theorem ze79 : zeroB Try.prog 79 = some (.agg #[(.slice none 0 0), .int .i64 0]) := by kernel_rfl
theorem ze81 : zeroB Try.prog 81 = some (.agg #[(.slice none 0 0), .int .i64 0, .int .i64 0]) := by kernel_rfl
theorem catch_ret (bx ba be : Nat) (w : World) : CallsD Try.prog 23 ([.pointer (some ⟨bx, 0, none⟩), .pointer (some ⟨ba, 0, none⟩), .pointer (some ⟨be, 0, none⟩)] : List Value).toArray .returning w fun e u' w' => u' = .returning ∧ ((∃ v, e = .returned v) ∧ w' = w) := by
 have hR := Fr.refl (fun k => k = bx ∨ k = ba ∨ k = be) w
 refine callsD_of_wpS Try.func23 rfl fun c₀ cs hu => ?_
 refine wpS_seq ?_
 refine wpS_recover (N := 22) (L := [(0, .pointer (some ⟨bx, 0, none⟩)), (1, .pointer (some ⟨ba, 0, none⟩)), (2, .pointer (some ⟨be, 0, none⟩))]) (ds := []) (v := .nilIface) (cs2 := c₀ :: cs) rfl rfl (Is.start (N := 22) (fn := Try.f23) (args := ([.pointer (some ⟨bx, 0, none⟩), .pointer (some ⟨ba, 0, none⟩), .pointer (some ⟨be, 0, none⟩)] : List Value)) rfl (by simp) [(0, .pointer (some ⟨bx, 0, none⟩)), (1, .pointer (some ⟨ba, 0, none⟩)), (2, .pointer (some ⟨be, 0, none⟩))] (by simp)) (.inl ⟨by simp [recoverD, hu], rfl, rfl⟩) (fun act_ ha => ?_)
 show Code.wpS _ _ _ act_ _ w
 refine wpS_of_wp ?_
 refine At.seq ?_ act_ ha
 refine .region (.move rfl rfl (.neNil rfl if20 rfl (.ops0 (.thenN (.condF rfl (.skip (.doneS (u' := .returning) (ResV.nil) (by cases c₀; simp only at hu; subst hu; rfl) ?_)))))))
 exact ⟨rfl, ⟨_, rfl⟩, rfl⟩
theorem catch_pan (bx ba be : Nat) (a c a0 e0 : Int) (w : World) (hbx : w.heap[bx]? = some (.cells #[zN, zN, zI, zI, zS, zS, zI, zN, zN, zI, zS, zI, zN, zN, zI, zN, zI, zI, zS, zI, zN, zN, zI] 37)) (hba : w.heap[ba]? = some (.cells #[.int .i64 a0] 3)) (hbe : w.heap[be]? = some (.cells #[.int .i64 e0] 38)) :
  CallsD Try.prog 23 ([.pointer (some ⟨bx, 0, none⟩), .pointer (some ⟨ba, 0, none⟩), .pointer (some ⟨be, 0, none⟩)] : List Value).toArray (.panicking [{ v := .iface 75 (.agg #[.int .i64 a, .int .i64 c]), recovered := false }]) w fun e u' w' => u' = .panicking [{ v := .iface 75 (.agg #[.int .i64 a, .int .i64 c]), recovered := true }] ∧ ((∃ v, e = .returned v) ∧ (w'.heap[bx]? = some (.cells #[zN, zN, zI, zI, zS, zS, zI, zN, zN, zI, zS, zI, zN, zN, zI, zN, zI, zI, zS, zI, zN, zN, zI] 37) ∧ w'.heap[ba]? = some (.cells #[.int .i64 a] 3) ∧ w'.heap[be]? = some (.cells #[.int .i64 c] 38) ∧ Fr (fun k => k = bx ∨ k = ba ∨ k = be) w w')) := by
 have hR := Fr.refl (fun k => k = bx ∨ k = ba ∨ k = be) w
 have n_bx_ba : bx ≠ ba := ne_ty hbx hba rfl; have n_bx_be : bx ≠ be := ne_ty hbx hbe rfl; have n_ba_be : ba ≠ be := ne_ty hba hbe rfl
 refine callsD_of_wpS Try.func23 rfl fun c₀ cs hu => ?_
 refine wpS_seq ?_
 refine wpS_recover (N := 22) (L := [(0, .pointer (some ⟨bx, 0, none⟩)), (1, .pointer (some ⟨ba, 0, none⟩)), (2, .pointer (some ⟨be, 0, none⟩))]) (ds := []) (v := .iface 75 (.agg #[.int .i64 a, .int .i64 c])) (cs2 := { c₀ with mode := .panicking [{ v := .iface 75 (.agg #[.int .i64 a, .int .i64 c]), recovered := true }] } :: cs) rfl rfl (Is.start (N := 22) (fn := Try.f23) (args := ([.pointer (some ⟨bx, 0, none⟩), .pointer (some ⟨ba, 0, none⟩), .pointer (some ⟨be, 0, none⟩)] : List Value)) rfl (by simp) [(0, .pointer (some ⟨bx, 0, none⟩)), (1, .pointer (some ⟨ba, 0, none⟩)), (2, .pointer (some ⟨be, 0, none⟩))] (by simp)) (.inr (by simp [recoverD, hu])) (fun act_ ha => ?_)
 show Code.wpS _ _ _ act_ _ w
 refine wpS_of_wp ?_
 refine At.seq ?_ act_ ha
 refine .region (.move rfl rfl (.neHeld rfl if20 rfl (.ops0 (.thenN (.condT rfl (.seq (.region (.move rfl rfl (.assertOk rfl pl75 rfl (.move rfl rfl (.extract rfl rfl rfl (.extract rfl rfl rfl ?_))))))))))))
 refine At.alloc ze75 rfl (fun b1 w1 F1 => ?_)
 have n_bx_b1 : bx ≠ b1 := Nat.ne_of_lt (F1.lt hbx)
 have n_ba_b1 : ba ≠ b1 := Nat.ne_of_lt (F1.lt hba)
 have n_be_b1 : be ≠ b1 := Nat.ne_of_lt (F1.lt hbe)
 have gb1 := Nat.le_trans hR.size (Nat.le_of_eq F1.eq.symm)
 replace hbx := F1.old hbx
 replace hba := F1.old hba
 replace hbe := F1.old hbe
 have hb1 : w1.heap[b1]? = some (.cells #[zI, zI] 75) := F1.new
 replace hR := hR.freshF F1
 refine At.storeAll rfl rfl hb1 sz75 rfl (by first | (simp [Value.oneCell']; done) | (simp only [List.all_toArray, List.all_cons, List.all_nil, Bool.and_true, Bool.true_and]; rfl)) (fun w2 S1 => ?_)
 replace hbx := S1.other hbx n_bx_b1
 replace hba := S1.other hba n_ba_b1
 replace hbe := S1.other hbe n_be_b1
 replace hb1 : w2.heap[b1]? = some (.cells #[.int .i64 a, .int .i64 c] 75) := S1.new
 replace hR := hR.setF S1 (.inr gb1)
 refine .assign rfl rfl (.ops0 (.thenN (.seq (.seq (.region (.move rfl rfl (.not rfl rfl (.ops0 (.thenN ?_)))))))))
 have hb : ((!true)) = false := rfl
 refine .set (d := 15) (u := .bool false) rfl (congrArg Value.bool hb) (.condF rfl (.skip (.thenN (.drawG (n := 8) mixed (by kernel_rfl) rfl PanicOk.bodyS ?_))))
 have hR := Fr.drewF hR
 have hbx : _ := (show w2.drew.heap[bx]? = _ from hbx)
 have hba : _ := (show w2.drew.heap[ba]? = _ from hba)
 have hbe : _ := (show w2.drew.heap[be]? = _ from hbe)
 have hb1 : _ := (show w2.drew.heap[b1]? = _ from hb1)
 refine At.wpcS (i := 0) (d := 17) (.agg #[zN, zN, zI, zI, zS, zS, zI, zN, zN, zI, zS, zI, zN, zN, zI, zN, zI, zI, zS, zI, zN, zN, zI]) (by kernel_rfl) rfl rfl rfl (fun Lx => ?_) ?_
 ·skip
  refine .build (C := #[zN, zN, zI, zI, zS, zS, zI, zN, zN, zI, zS, zI, zN, zN, zI, zN, zI, zI, zS, zI, zN, zN, zI]) sd37 ze37 rfl (Bld.nil _) rfl (.ops0 ?_)
  exact fun a ha => ⟨ha, rfl⟩
 refine At.wpcS (i := 1) (d := 18) (.pointer (some ⟨b1, 0 + 0, none⟩)) (by kernel_rfl) rfl rfl rfl (fun Lx => ?_) ?_
 ·skip
  refine .fieldAddr rfl fo75_0 rfl (.ops0 ?_)
  exact fun a ha => ⟨ha, rfl⟩
 refine At.wpcS (i := 2) (d := 19) (.int .i64 a) (by kernel_rfl) rfl rfl rfl (fun Lx => ?_) ?_
 ·skip
  refine .load rfl (Ld.ownCell ag3 hb1 rfl) rfl (.ops0 ?_)
  exact fun a ha => ⟨ha, rfl⟩
 refine At.wpcS (i := 3) (d := 20) (.pointer (some ⟨b1, 0 + 1, none⟩)) (by kernel_rfl) rfl rfl rfl (fun Lx => ?_) ?_
 ·skip
  refine .fieldAddr rfl fo75_1 rfl (.ops0 ?_)
  exact fun a ha => ⟨ha, rfl⟩
 refine At.wpcS (i := 4) (d := 21) (.int .i64 c) (by kernel_rfl) rfl rfl rfl (fun Lx => ?_) ?_
 ·skip
  refine .load rfl (Ld.ownCell ag38 hb1 rfl) rfl (.ops0 ?_)
  exact fun a ha => ⟨ha, rfl⟩
 refine At.wpcE [5] (by kernel_rfl) (by kernel_rfl) (.cons [1, 2, 3, 4] rfl (by kernel_rfl) ?_ .nil)
 refine At.storeAll rfl rfl hbx sz37 rfl (by first | (simp [Value.oneCell', ((SlOk.nil)).one]; done) | (simp only [List.all_toArray, List.all_cons, List.all_nil, ((SlOk.nil)).one, Bool.and_true, Bool.true_and]; rfl)) (fun w3 S2 => ?_)
 replace hba := S2.other hba n_bx_ba.symm
 replace hbe := S2.other hbe n_bx_be.symm
 replace hb1 := S2.other hb1 n_bx_b1.symm
 replace hbx : w3.heap[bx]? = some (.cells #[zN, zN, zI, zI, zS, zS, zI, zN, zN, zI, zS, zI, zN, zN, zI, zN, zI, zI, zS, zI, zN, zN, zI] 37) := S2.new
 replace hR := hR.setF S2 (.inl (.inl rfl))
 refine .ops0 ?_
 refine At.wpcN (.cons rfl rfl rfl rfl (fun Lx => ?_) (.cons rfl rfl rfl rfl (fun Lx => ?_) (.cons rfl rfl rfl rfl (fun Lx => ?_) (.cons rfl rfl rfl rfl (fun Lx => ?_) .nil)))) ?_
 ·skip
  refine .fieldAddr rfl fo75_0 rfl (.ops0 ?_)
  exact fun a ha => ⟨ha, rfl⟩
 ·skip
  refine .load rfl (Ld.ownCell ag3 hb1 rfl) rfl (.ops0 ?_)
  exact fun a ha => ⟨ha, rfl⟩
 ·skip
  refine .fieldAddr rfl fo75_1 rfl (.ops0 ?_)
  exact fun a ha => ⟨ha, rfl⟩
 ·skip
  refine .load rfl (Ld.ownCell ag38 hb1 rfl) rfl (.ops0 ?_)
  exact fun a ha => ⟨ha, rfl⟩
 refine At.wpcE [6] (by kernel_rfl) (by kernel_rfl) (.cons [3, 4] rfl (by kernel_rfl) ?_ .nil)
 refine At.store1 rfl rfl hba sz3 (by simp) rfl (fun w4 S3 => ?_)
 replace hbx := S3.other hbx n_bx_ba
 replace hbe := S3.other hbe n_ba_be.symm
 replace hb1 := S3.other hb1 n_ba_b1.symm
 replace hba : w4.heap[ba]? = some (.cells #[.int .i64 a] 3) := S3.new
 replace hR := hR.setF S3 (.inl (.inr (.inl rfl)))
 refine .ops0 ?_
 refine At.wpcN (.cons rfl rfl rfl rfl (fun Lx => ?_) (.cons rfl rfl rfl rfl (fun Lx => ?_) .nil)) ?_
 ·skip
  refine .fieldAddr rfl fo75_1 rfl (.ops0 ?_)
  exact fun a ha => ⟨ha, rfl⟩
 ·skip
  refine .load rfl (Ld.ownCell ag38 hb1 rfl) rfl (.ops0 ?_)
  exact fun a ha => ⟨ha, rfl⟩
 refine At.wpcE [7] (by kernel_rfl) (by kernel_rfl) (.cons [] rfl (by kernel_rfl) ?_ .nil)
 refine At.store1 rfl rfl hbe sz38 (by simp) rfl (fun w5 S4 => ?_)
 replace hbx := S4.other hbx n_bx_be
 replace hba := S4.other hba n_ba_be
 replace hb1 := S4.other hb1 n_be_b1.symm
 replace hbe : w5.heap[be]? = some (.cells #[.int .i64 c] 38) := S4.new
 replace hR := hR.setF S4 (.inl (.inr (.inr rfl)))
 refine .ops0 (.wpcN .nil (.wpcZ (.doneS  (ResV.nil) rfl ?_)))
 exact ⟨rfl, ⟨_, rfl⟩, hbx, hba, hbe, hR⟩
theorem parse_any (v : Value) (l : List UInt8) (m : Int) (w : World) (hv : BytesAt w v l) (hm : w.cell? ⟨0, 0, none⟩ = some (.int .i64 m)) :
  Calls Try.prog 13 ([v] : List Value).toArray w fun e w' => ∃ p : Pr, e = .returned (.tuple #[.agg p.cs, .int .i64 (parseR l).2.1, .int .i64 (parseR l).2.2]) ∧ Below w.heap.size w w' ∧ PrOk w' p ∧ shPr p = (parseR l).1.getD zP ∧ plT p.body ∧ ∀ b, prBlk p b → w.heap.size ≤ b := by
 have hB := Below.refl w.heap.size w
 refine At.enterD (Q := bodyPostD _ _ _) (N := 31) Try.func13 rfl rfl (by simp) [(0, v)] (by simp) (fun _ _ _ h => h) ?_
 refine .seq (.region ?_)
 refine At.alloc ze37 rfl (fun b1 w1 F1 => ?_)
 have gb1 := F1.ge hB
 have hb1 : w1.heap[b1]? = some (.cells #[zN, zN, zI, zI, zS, zS, zI, zN, zN, zI, zS, zI, zN, zN, zI, zN, zI, zI, zS, zI, zN, zN, zI] 37) := F1.new
 replace hB := F1.below' hB
 refine At.alloc ze3 rfl (fun b2 w2 F2 => ?_)
 have n_b1_b2 : b1 ≠ b2 := Nat.ne_of_lt (F2.lt hb1)
 have gb2 := F2.ge hB
 replace hb1 := F2.old hb1
 have hb2 : w2.heap[b2]? = some (.cells #[zI] 3) := F2.new
 replace hB := F2.below' hB
 refine At.alloc ze38 rfl (fun b3 w3 F3 => ?_)
 have n_b1_b3 : b1 ≠ b3 := Nat.ne_of_lt (F3.lt hb1)
 have n_b2_b3 : b2 ≠ b3 := Nat.ne_of_lt (F3.lt hb2)
 have gb3 := F3.ge hB
 replace hb1 := F3.old hb1
 replace hb2 := F3.old hb2
 have hb3 : w3.heap[b3]? = some (.cells #[zI] 38) := F3.new
 replace hB := F3.below' hB
 refine .ops0 (.thenN (.seq (.region (.move rfl rfl ?_))))
 refine At.call en15 rfl rfl (lex_any v l m _ (BytesAt.keep hv hB) (cell_keep hm hB)) (fun e w4 hR => ?_)
 obtain ⟨vt1, rfl, hbl1, hO1, ghO1⟩ := hR
 refine ⟨_, rfl, ?_⟩
 replace ghO1 : ∀ g, Value.ownBlock vt1 = some g → w.heap.size ≤ g := fun g h => Nat.le_trans hB.size (ghO1 g h)
 replace hb1 := Below.old hbl1 hb1
 replace hb2 := Below.old hbl1 hb2
 replace hb3 := Below.old hbl1 hb3
 replace hB := Below.andThen hB hbl1
 refine .move rfl rfl (.extract rfl rfl rfl (.extract rfl rfl rfl (.extract rfl rfl rfl (.assign rfl rfl ?_))))
 refine At.store1 rfl rfl hb2 sz3 (by simp) rfl (fun w5 S1 => ?_)
 replace hb1 := S1.other hb1 n_b1_b2
 replace hb3 := S1.other hb3 n_b2_b3.symm
 replace hO1 := hO1.set S1 (hO1.neT hb2 rfl)
 replace hb2 : w5.heap[b2]? = some (.cells #[.int .i64 (lexA l : Int)] 3) := S1.new
 replace hB := S1.below' hB gb2
 refine At.store1 rfl rfl hb3 sz38 (by simp) rfl (fun w6 S2 => ?_)
 replace hb1 := S2.other hb1 n_b1_b3
 replace hb2 := S2.other hb2 n_b2_b3
 replace hO1 := hO1.set S2 (hO1.neT hb3 rfl)
 replace hb3 : w6.heap[b3]? = some (.cells #[.int .i64 (lexE l)] 38) := S2.new
 replace hB := S2.below' hB gb3
 refine .ops0 (.thenN (.seq (.seq (.region (.load rfl (Ld.ownCell ag38 hb3 rfl) rfl (.neI rfl rfl rfl (.ops0 (.thenN ?_))))))))
 refine At.cond (b := (!decide ((lexE l) = 0))) rfl (fun hc1 => ?_) (fun hc1 => ?_)
 ·skip
  have hE : lexE l ≠ 0 := by simpa using hc1
  refine .seq (.calm (.drawG (n := 6) mixed (by kernel_rfl) rfl PanicOk.calm ?_))
  have hB := Below.drewB hB
  have hb1 : _ := (show w6.drew.heap[b1]? = _ from hb1)
  have hb2 : _ := (show w6.drew.heap[b2]? = _ from hb2)
  have hb3 : _ := (show w6.drew.heap[b3]? = _ from hb3)
  have hO1 := hO1.drew
  refine At.wpcS (i := 0) (d := 14) (.agg #[zN, zN, zI, zI, zS, zS, zI, zN, zN, zI, zS, zI, zN, zN, zI, zN, zI, zI, zS, zI, zN, zN, zI]) (by kernel_rfl) rfl rfl rfl (fun Lx => ?_) ?_
  ·skip
   refine .load rfl (Ld.own (C := #[zN, zN, zI, zI, zS, zS, zI, zN, zN, zI, zS, zI, zN, zN, zI, zN, zI, zI, zS, zI, zN, zN, zI]) ag37 sz37 hb1) rfl (.ops0 ?_)
   exact fun a ha => ⟨ha, rfl⟩
  refine At.wpcS (i := 1) (d := 15) (.int .i64 (lexA l : Int)) (by kernel_rfl) rfl rfl rfl (fun Lx => ?_) ?_
  ·skip
   refine .load rfl (Ld.ownCell ag3 hb2 rfl) rfl (.ops0 ?_)
   exact fun a ha => ⟨ha, rfl⟩
  refine At.wpcS (i := 2) (d := 16) (.int .i64 (lexE l)) (by kernel_rfl) rfl rfl rfl (fun Lx => ?_) ?_
  ·skip
   refine .load rfl (Ld.ownCell ag38 hb3 rfl) rfl (.ops0 ?_)
   exact fun a ha => ⟨ha, rfl⟩
  refine At.wpcE [3] (by kernel_rfl) (by kernel_rfl) (.cons [1, 2] rfl (by kernel_rfl) ?_ .nil)
  refine At.storeAll rfl rfl hb1 sz37 rfl (by first | (simp [Value.oneCell', ((SlOk.nil)).one]; done) | (simp only [List.all_toArray, List.all_cons, List.all_nil, ((SlOk.nil)).one, Bool.and_true, Bool.true_and]; rfl)) (fun w7 S3 => ?_)
  replace hb2 := S3.other hb2 n_b1_b2.symm
  replace hb3 := S3.other hb3 n_b1_b3.symm
  replace hO1 := hO1.set S3 (hO1.neT hb1 rfl)
  replace hb1 : w7.heap[b1]? = some (.cells #[zN, zN, zI, zI, zS, zS, zI, zN, zN, zI, zS, zI, zN, zN, zI, zN, zI, zI, zS, zI, zN, zN, zI] 37) := S3.new
  replace hB := S3.below' hB gb1
  refine .ops0 ?_
  refine At.wpcN (.cons rfl rfl rfl rfl (fun Lx => ?_) (.cons rfl rfl rfl rfl (fun Lx => ?_) .nil)) ?_
  ·skip
   refine .load rfl (Ld.ownCell ag3 hb2 rfl) rfl (.ops0 ?_)
   exact fun a ha => ⟨ha, rfl⟩
  ·skip
   refine .load rfl (Ld.ownCell ag38 hb3 rfl) rfl (.ops0 ?_)
   exact fun a ha => ⟨ha, rfl⟩
  refine At.wpcE [4] (by kernel_rfl) (by kernel_rfl) (.cons [2] rfl (by kernel_rfl) ?_ .nil)
  refine At.store1 rfl rfl hb2 sz3 (by simp) rfl (fun w8 S4 => ?_)
  replace hb1 := S4.other hb1 n_b1_b2
  replace hb3 := S4.other hb3 n_b2_b3.symm
  replace hO1 := hO1.set S4 (hO1.neT hb2 rfl)
  replace hb2 : w8.heap[b2]? = some (.cells #[.int .i64 (lexA l : Int)] 3) := S4.new
  replace hB := S4.below' hB gb2
  refine .ops0 ?_
  refine At.wpcN (.cons rfl rfl rfl rfl (fun Lx => ?_) .nil) ?_
  ·skip
   refine .load rfl (Ld.ownCell ag38 hb3 rfl) rfl (.ops0 ?_)
   exact fun a ha => ⟨ha, rfl⟩
  refine At.wpcE [5] (by kernel_rfl) (by kernel_rfl) (.cons [] rfl (by kernel_rfl) ?_ .nil)
  refine At.store1 rfl rfl hb3 sz38 (by simp) rfl (fun w9 S5 => ?_)
  replace hb1 := S5.other hb1 n_b1_b3
  replace hb2 := S5.other hb2 n_b2_b3
  replace hO1 := hO1.set S5 (hO1.neT hb3 rfl)
  replace hb3 : w9.heap[b3]? = some (.cells #[.int .i64 (lexE l)] 38) := S5.new
  replace hB := S5.below' hB gb3
  refine .ops0 (.wpcN .nil (.wpcZ (.calmN (.thenN (.retc (.thenR (.done0 (ResV.cell rfl (Ld.own (C := #[zN, zN, zI, zI, zS, zS, zI, zN, zN, zI, zS, zI, zN, zN, zI, zN, zI, zI, zS, zI, zN, zN, zI]) ag37 sz37 hb1) (ResV.cell rfl (Ld.ownCell ag3 hb2 rfl) (ResV.cell rfl (Ld.ownCell ag38 hb3 rfl) ResV.nil))) ?_)))))))
  exact ⟨zPr, by rw [parseR_lex hE]; rfl, hB, zPr_ok _, by rw [parseR_lex hE]; rfl, zPr_pl, fun b hb => absurd hb (zPr_blk b)⟩
 ·skip
  have hE : lexE l = 0 := by simpa using hc1
  refine .skip (.thenN (.seq (.region (.makeFunc rfl rfl (.deferV rfl (.ops0 (.thenN (.seq ?_))))))))
  have htk : RowsAt w6 vt1 4 (((lexT l)).map Tk.cs) := (OwnR.rows hO1 (fun u hu => (((fun u _ => tk_ok u)) u hu).size))
  refine .region (.move rfl rfl (.move rfl rfl (.lenSl rfl hv.ok el22 rfl (.build (C := #[vt1, .int .i64 (l.length : Int)]) sd79 ze79 rfl (Bld.one fo79_0 (hO1).one (by first | decide | exact Nat.le_of_ble_eq_true rfl | simp [Value.cells]) (Bld.cons fo79_1 rfl (by first | decide | exact Nat.le_of_ble_eq_true rfl) (Bld.nil _))) rfl (.build (C := #[vt1, .int .i64 (l.length : Int), zI]) sd81 ze81 rfl (Bld.cons fo81_0 rfl (by first | decide | exact Nat.le_of_ble_eq_true rfl) (Bld.nil _)) rfl ?_)))))
  refine At.box rfl rfl (fun b4 w10 F4 => ?_)
  have n_b1_b4 : b1 ≠ b4 := Nat.ne_of_lt (F4.lt hb1)
  have n_b2_b4 : b2 ≠ b4 := Nat.ne_of_lt (F4.lt hb2)
  have n_b3_b4 : b3 ≠ b4 := Nat.ne_of_lt (F4.lt hb3)
  have gb4 := F4.ge hB
  replace hb1 := F4.old hb1
  replace hb2 := F4.old hb2
  replace hb3 := F4.old hb3
  replace hO1 := hO1.fresh F4
  have hb4 : w10.heap[b4]? = some (.cells #[vt1, .int .i64 (l.length : Int), zI] 81) := F4.new
  replace hB := F4.below' hB
  have hmlp : MLt w10.heap.size [some b1, some b2, some b3, some b4, Value.ownBlock vt1] := (MLt.blk hb1 (MLt.blk hb2 (MLt.blk hb3 (MLt.blk hb4 (MLt.own hO1 (MLt.nil _))))))
  have hszp := hB.size
  refine At.callPL en24 rfl rfl (program_any (wB := w6) (lexT l) vt1 _ (Fresh.belowSelf F4) (fun k e => by have := F4.eq; omega) htk hb4 (Nat.le_trans (lexT_len l) (by decide))) (fun e wp hR' => ?_)
  rcases hR'.cases.symm with ⟨pa, pc, hq, rfl, hF, hbb⟩ | ⟨xp, us, val, vp, hq, rfl, hF, htsp, hbp, hop⟩
  ·skip
   refine .inr ⟨_, rfl, ?_⟩
   refine .thenP ?_
   replace hb1 := Fr.oldB hF hb1 n_b1_b4
   replace hb2 := Fr.oldB hF hb2 n_b2_b4
   replace hb3 := Fr.oldB hF hb3 n_b3_b4
   have hB1 := Fr.below hF hB hB.size (fun k e => e ▸ gb4)
   refine At.doneRec en23 (catch_pan _ _ _ _ _ _ _ _ hb1 hb2 hb3) (fun w9 hK => ?_)
   obtain ⟨k1, k2, k3, kF⟩ := hK
   refine ⟨_, ResV.cell rfl (Ld.own (C := #[zN, zN, zI, zI, zS, zS, zI, zN, zN, zI, zS, zI, zN, zN, zI, zN, zI, zI, zS, zI, zN, zN, zI]) ag37 sz37 k1) (ResV.cell rfl (Ld.ownCell ag3 k2 rfl) (ResV.cell rfl (Ld.ownCell ag38 k3 rfl) ResV.nil)), ?_⟩
   have hpr := parseR_bad hE hq
   exact ⟨zPr, by rw [hpr]; rfl, Fr.below kF hB1 hB1.size (fun k e => by rcases e with rfl | rfl | rfl <;> assumption), zPr_ok _, by rw [hpr]; rfl, zPr_pl, fun b hb => absurd hb (zPr_blk b)⟩
  refine .inl ⟨_, rfl, ?_⟩
  obtain ⟨p, rfl, hp, hsh, hpl, hpb⟩ := hop
  have hXp := Xs.of_new (B := 0) (M := [some b1, some b2, some b3, some b4, Value.ownBlock vt1]) (K := kPr) hp (fun b hb => .inr (hpb b hb)) (fun _ _ => Nat.zero_le _) hmlp
  replace hpb := fun b hb => Nat.le_trans hszp (hpb b hb)
  replace hb1 := Fr.oldB hF hb1 n_b1_b4
  replace hb2 := Fr.oldB hF hb2 n_b2_b4
  replace hb3 := Fr.oldB hF hb3 n_b3_b4
  clear hO1
  replace hB := Fr.below hF hB hB.size (fun k e => e ▸ gb4)
  clear hb4
  refine At.storeAll rfl rfl hb1 (sz37.trans (congrArg some ((Xs.one hXp)).size.symm)) ((Xs.one hXp)).size.symm ((Xs.one hXp)).one (fun w11 S6 => ?_)
  replace hb2 := S6.other hb2 n_b1_b2.symm
  replace hb3 := S6.other hb3 n_b1_b3.symm
  replace hXp := Xs.set hXp S6 (by simp)
  replace hb1 : w11.heap[b1]? = some (.cells p.cs 37) := S6.new
  replace hB := S6.below' hB gb1
  refine .ops0 (.thenN (.seq (.seq (.region (.fieldAddr rfl fo37_2 rfl (.load rfl (Ld.ownPart ag35 (sz35.trans (congrArg some (((Xs.one hXp)).bodyOk).size.symm)) hb1 ((Xs.one hXp)).bodyCs) rfl ?_))))))
  refine At.call en19 rfl rfl (Depth_any p.body _ ((Xs.one hXp)).bodyOk) (fun e w12 hR => ?_)
  obtain ⟨rfl, hbl2⟩ := hR
  refine ⟨_, rfl, ?_⟩
  replace hb1 := Below.old hbl2 hb1
  replace hb2 := Below.old hbl2 hb2
  replace hb3 := Below.old hbl2 hb3
  replace hXp := Xs.below hXp hbl2
  replace hB := Below.andThen hB hbl2
  refine .gtr rfl rfl rfl (.ops0 (.thenN ?_))
  refine At.cond (b := decide (200 < ((min 1000 (dS (shT p.body)) : Nat) : Int))) rfl (fun hc2 => ?_) (fun hc2 => ?_)
  ·skip
   have hc2' := of_decide_eq_true hc2
   refine .seq (.region (.build (C := #[zN, zN, zI, zI, zS, zS, zI, zN, zN, zI, zS, zI, zN, zN, zI, zN, zI, zI, zS, zI, zN, zN, zI]) sd37 ze37 rfl (Bld.nil _) rfl ?_))
   refine At.storeAll rfl rfl hb1 sz37 ((Xs.one hXp)).size (by first | (simp [Value.oneCell', ((SlOk.nil)).one]; done) | (simp only [List.all_toArray, List.all_cons, List.all_nil, ((SlOk.nil)).one, Bool.and_true, Bool.true_and]; rfl)) (fun w13 S7 => ?_)
   replace hb2 := S7.other hb2 n_b1_b2.symm
   replace hb3 := S7.other hb3 n_b1_b3.symm
   replace hXp := Xs.set hXp S7 (by simp)
   replace hb1 : w13.heap[b1]? = some (.cells #[zN, zN, zI, zI, zS, zS, zI, zN, zN, zI, zS, zI, zN, zN, zI, zN, zI, zI, zS, zI, zN, zN, zI] 37) := S7.new
   replace hB := S7.below' hB gb1
   refine At.store1 rfl rfl hb2 sz3 (by simp) rfl (fun w14 S8 => ?_)
   replace hb1 := S8.other hb1 n_b1_b2
   replace hb3 := S8.other hb3 n_b2_b3.symm
   replace hXp := Xs.set hXp S8 (by simp)
   replace hb2 : w14.heap[b2]? = some (.cells #[zI] 3) := S8.new
   replace hB := S8.below' hB gb2
   refine At.store1 rfl rfl hb3 sz38 (by simp) rfl (fun w15 S9 => ?_)
   replace hb1 := S9.other hb1 n_b1_b3
   replace hb2 := S9.other hb2 n_b2_b3
   replace hXp := Xs.set hXp S9 (by simp)
   replace hb3 : w15.heap[b3]? = some (.cells #[.int .i64 6] 38) := S9.new
   replace hB := S9.below' hB gb3
   refine .ops0 (.thenN (.retc (.thenR ?_)))
   refine At.doneRet en23 (catch_ret _ _ _ _) (fun w9 e => ?_)
   subst e
   refine ⟨_, (ResV.cell rfl (Ld.own (C := #[zN, zN, zI, zI, zS, zS, zI, zN, zN, zI, zS, zI, zN, zN, zI, zN, zI, zI, zS, zI, zN, zN, zI]) ag37 sz37 hb1) (ResV.cell rfl (Ld.ownCell ag3 hb2 rfl) (ResV.cell rfl (Ld.ownCell ag38 hb3 rfl) ResV.nil))), ?_⟩
   exact ⟨zPr, by rw [parseR_deep hE hq (by rw [← hsh]; show 200 < dS (shT p.body); omega)]; rfl, hB, zPr_ok _, by rw [parseR_deep hE hq (by rw [← hsh]; show 200 < dS (shT p.body); omega)]; rfl, zPr_pl, fun b hb => absurd hb (zPr_blk b)⟩
  ·skip
   have hc2' := of_decide_eq_false hc2
   refine .skip (.thenN (.seq (.region (.load rfl (Ld.own ag37 (sz37.trans (congrArg some ((Xs.one hXp)).size.symm)) hb1) rfl ?_))))
   refine At.storeAll rfl rfl hb1 (sz37.trans (congrArg some ((Xs.one hXp)).size.symm)) (((Xs.one hXp)).size.trans ((Xs.one hXp)).size.symm) ((Xs.one hXp)).one (fun w16 S10 => ?_)
   replace hb2 := S10.other hb2 n_b1_b2.symm
   replace hb3 := S10.other hb3 n_b1_b3.symm
   replace hXp := Xs.set hXp S10 (by simp)
   replace hb1 : w16.heap[b1]? = some (.cells p.cs 37) := S10.new
   replace hB := S10.below' hB gb1
   refine At.store1 rfl rfl hb2 sz3 (by simp) rfl (fun w17 S11 => ?_)
   replace hb1 := S11.other hb1 n_b1_b2
   replace hb3 := S11.other hb3 n_b2_b3.symm
   replace hXp := Xs.set hXp S11 (by simp)
   replace hb2 : w17.heap[b2]? = some (.cells #[zI] 3) := S11.new
   replace hB := S11.below' hB gb2
   refine At.store1 rfl rfl hb3 sz38 (by simp) rfl (fun w18 S12 => ?_)
   replace hb1 := S12.other hb1 n_b1_b3
   replace hb2 := S12.other hb2 n_b2_b3
   replace hXp := Xs.set hXp S12 (by simp)
   replace hb3 : w18.heap[b3]? = some (.cells #[zI] 38) := S12.new
   replace hB := S12.below' hB gb3
   refine .ops0 (.thenN (.retc ?_))
   refine At.doneRet en23 (catch_ret _ _ _ _) (fun w9 e => ?_)
   subst e
   refine ⟨_, (ResV.cell rfl (Ld.own ag37 (sz37.trans (congrArg some ((Xs.one hXp)).size.symm)) hb1) (ResV.cell rfl (Ld.ownCell ag3 hb2 rfl) (ResV.cell rfl (Ld.ownCell ag38 hb3 rfl) ResV.nil))), ?_⟩
   exact ⟨p, by rw [parseR_ok hE hq (by rw [← hsh]; show ¬ 200 < dS (shT p.body); omega)]; rfl, hB, Xs.one hXp, by rw [parseR_ok hE hq (by rw [← hsh]; show ¬ 200 < dS (shT p.body); omega)]; exact hsh, hpl, hpb⟩
end Go.Proofs.Ytkjmjnddanhapaa
