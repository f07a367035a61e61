/-
 The walk of Lex: what each call does, for every argument. Written by a program of ours.
-/
import Derived.Test.YtkjmjnddanhapaaV2
import Derived.Test.YtkjmjnddanhapaaL4
set_option linter.unusedVariables false
set_option linter.unusedSimpArgs false
namespace Go.Proofs.Ytkjmjnddanhapaa
open Go.RowKit
theorem ag3 : aggB Try.prog 3 = some false := by kernel_rfl
theorem ag84 : aggB Try.prog 84 = some false := by kernel_rfl
theorem ag85 : aggB Try.prog 85 = some false := by kernel_rfl
theorem ag87 : aggB Try.prog 87 = some true := by kernel_rfl
theorem by47 : bytesB Try.prog 47 = some 40 := by kernel_rfl
theorem el43 : elemB Try.prog 43 = some 47 := by kernel_rfl
theorem el88 : elemB Try.prog 88 = some 87 := by kernel_rfl
theorem en27 : entB Try.prog 27 = true := by kernel_rfl
theorem en29 : entB Try.prog 29 = true := by kernel_rfl
theorem en30 : entB Try.prog 30 = true := by kernel_rfl
theorem en31 : entB Try.prog 31 = true := by kernel_rfl
theorem en32 : entB Try.prog 32 = true := by kernel_rfl
theorem en33 : entB Try.prog 33 = true := by kernel_rfl
theorem en34 : entB Try.prog 34 = true := by kernel_rfl
theorem fo47_3 : fieldB Try.prog 47 3 = some (3, 1) := by kernel_rfl
theorem fo87_0 : fieldB Try.prog 87 0 = some (0, 1) := by kernel_rfl
theorem fo87_1 : fieldB Try.prog 87 1 = some (1, 1) := by kernel_rfl
theorem sd87 : sizedB Try.prog 87 = true := by kernel_rfl
theorem sz87 : sizeB Try.prog 87 = some 2 := by kernel_rfl
theorem ze3 : zeroB Try.prog 3 = some (.int .i64 0) := by kernel_rfl
theorem ze87 : zeroB Try.prog 87 = some (.agg #[.nilFunc, .nilFunc]) := by kernel_rfl
theorem ent_b (r : Rl) : entB Try.prog r.b = true := by cases r; exact en26; exact en28; exact en30
theorem ent_t (r : Rl) : entB Try.prog r.t = true := by cases r; exact en27; exact en29; exact en31
theorem beg_any (r : Rl) (u : UInt8) (w : World) : Calls Try.prog r.b ([.int .u8 (u.toNat : Int)] : List Value).toArray w fun e w' => e = .returned (.bool (begB r u)) ∧ w = w' := by
 cases r
 ·exact digit_any u w
 ·exact letter_any u w
 ·exact anyC_any u w
theorem take_any (r : Rl) (l : List UInt8) (m : Int) (w : World) (hl : l.length ≤ 1099511627776) (h0 : l ≠ []) (hm : w.cell? ⟨0, 0, none⟩ = some (.int .i64 m)) : Calls Try.prog r.t ([.string (bs l)] : List Value).toArray w fun e w' => e = .returned (takR r l).val ∧ Below w.heap.size w w' := by
 cases r
 ·exact (number_any l w hl).mono fun e w' h => ⟨by rw [h.1, numV_eq]; rfl, h.2⟩
 ·exact (name_any l m w hl h0 hm).mono fun e w' h => ⟨by rw [h.1, nameV_eq]; rfl, h.2⟩
 ·exact (sign_any l w).mono fun e w' h => ⟨by rw [h.1, signV_eq]; rfl, h.2⟩
theorem pick_any (r : Rl) (p0 p1 : Nat) (l : List UInt8) (a : Nat) (u : UInt8) (w : World) (hp0 : w.heap[p0]? = some (.cells #[.string (bs l)] 9)) (hp1 : w.heap[p1]? = some (.cells #[.int .i64 (a : Int)] 3)) (hu : l[a]? = some u) :
  Calls Try.prog 34 ([.agg r.cs, .pointer (some ⟨p0, 0, none⟩), .pointer (some ⟨p1, 0, none⟩)] : List Value).toArray w fun e w' => e = .returned (.bool (begB r u)) ∧ Below w.heap.size w w' := by
 have hB := Below.refl w.heap.size w
 refine At.enter (N := 11) Try.func34 rfl rfl (by simp) [(0, .agg r.cs), (1, .pointer (some ⟨p0, 0, none⟩)), (2, .pointer (some ⟨p1, 0, none⟩))] (by simp) ?_
 refine .seq (.region ?_)
 refine At.box rfl rfl (fun b1 w1 F1 => ?_)
 have n_p0_b1 : p0 ≠ b1 := Nat.ne_of_lt (F1.lt hp0)
 have n_p1_b1 : p1 ≠ b1 := Nat.ne_of_lt (F1.lt hp1)
 have gb1 := F1.ge hB
 replace hp0 := F1.old hp0
 replace hp1 := F1.old hp1
 have hb1 : w1.heap[b1]? = some (.cells r.cs 87) := F1.new
 replace hB := F1.below' hB
 refine .assign rfl rfl (.ops0 (.thenN (.seq (.drawG (n := 7) mixed (by kernel_rfl) rfl (PanicOk.then PanicOk.body) ?_))))
 have hB := Below.drewB hB
 have hp0 : _ := (show w1.drew.heap[p0]? = _ from hp0)
 have hp1 : _ := (show w1.drew.heap[p1]? = _ from hp1)
 have hb1 : _ := (show w1.drew.heap[b1]? = _ from hb1)
 refine At.wpcS (i := 0) (d := 5) (.pointer (some ⟨b1, 0 + 0, none⟩)) (by kernel_rfl) rfl rfl rfl (fun Lx => ?_) ?_
 ·skip
  refine .fieldAddr rfl fo87_0 rfl (.ops0 ?_)
  exact fun a ha => ⟨ha, rfl⟩
 refine At.wpcS (i := 1) (d := 6) (.func (.func r.b) #[] ([] : List Value).toArray) (by kernel_rfl) rfl rfl rfl (fun Lx => ?_) ?_
 ·skip
  refine .load rfl (Ld.ownCell ag84 hb1 ((rl_ok r)).c0) rfl (.ops0 ?_)
  exact fun a ha => ⟨ha, rfl⟩
 refine At.wpcS (i := 2) (d := 7) (.string (bs l)) (by kernel_rfl) rfl rfl rfl (fun Lx => ?_) ?_
 ·skip
  refine .load rfl (Ld.ownCell ag9 hp0 rfl) rfl (.ops0 ?_)
  exact fun a ha => ⟨ha, rfl⟩
 refine At.wpcS (i := 3) (d := 8) (.int .i64 (a : Int)) (by kernel_rfl) rfl rfl rfl (fun Lx => ?_) ?_
 ·skip
  refine .load rfl (Ld.ownCell ag3 hp1 rfl) rfl (.ops0 ?_)
  exact fun a ha => ⟨ha, rfl⟩
 refine At.wpcS (i := 4) (d := 9) (.int .u8 (u.toNat : Int)) (by kernel_rfl) rfl rfl rfl (fun Lx => ?_) ?_
 ·skip
  refine .indexB (l := l) (i := a) rfl rfl hu st9 rfl (.ops0 ?_)
  exact fun a ha => ⟨ha, rfl⟩
 refine At.wpcE [5] (by kernel_rfl) (by kernel_rfl) (.cons [] rfl (by kernel_rfl) ?_ .nil)
 refine At.callV rfl (ent_b r) rfl rfl (beg_any r u _) (fun e w' hR => ?_)
 obtain ⟨rfl, rfl⟩ := hR
 refine ⟨_, rfl, ?_⟩
 refine .ops0 (.wpcN .nil ?_)
 refine At.wpcE [6] (by kernel_rfl) (by kernel_rfl) (.cons [] rfl (by kernel_rfl) ?_ .nil)
 refine .assign rfl rfl (.ops0 (.wpcN .nil (.wpcZ (.thenN (.retc (.doneR (ResV.tmp rfl ResV.nil) ?_))))))
 exact ⟨rfl, hB⟩
theorem indexR_any (v : Value) (rs : List Rl) (c : FuncId) (cap : List Value) (p : Rl → Bool) (w : World) (hv : RowsAt w v 2 (rs.map Rl.cs)) (hl : rs.length ≤ 9223372036854775807) (hent : entB Try.prog c = true) (hclo : ∀ (x : Rl) (w1 : World), Below w.heap.size w w1 → Calls Try.prog c ([.agg x.cs] ++ cap : List Value).toArray w1 fun e w2 => e = .returned (.bool (p x)) ∧ Below w1.heap.size w1 w2) :
  Calls Try.prog 33 ([v, .func (.func c) #[] cap.toArray] : List Value).toArray w fun e w' => e = .returned (.int .i64 (idxI p rs)) ∧ Below w.heap.size w w' := by
 have hB := Below.refl w.heap.size w
 refine At.enter (N := 19) Try.func33 rfl rfl (by simp) [(0, v), (1, .func (.func c) #[] cap.toArray)] (by simp) ?_
 refine .seq (.region (.assign rfl rfl (.ops0 (.thenN (.seq (.seq (.region (.move rfl rfl (.lenSl rfl hv.okL el88 rfl (.move rfl rfl (.ops0 (.thenN (.block ?_)))))))))))))
 refine At.loop (Nat) (fun k => [(0, v), (1, .func (.func c) #[] cap.toArray), (7, .int .i64 (rs.length : Int)), (8, .int .i64 (k : Int))]) (fun k w1 => Below w.heap.size w w1 ∧ (k ≤ rs.length) ∧ (∀ i x, i < k → rs[i]? = some x → p x = false)) (fun k => rs.length - k) (0 : Nat) (Sub.cons rfl (Sub.cons rfl (Sub.cons rfl (Sub.cons rfl Sub.nil)))) ⟨hB, (Nat.zero_le _), (fun j x hj => absurd hj (Nat.not_lt_zero j))⟩ (fun k w1 hI => ?_)
 clear hB
 obtain ⟨hB, hk, hn⟩ := hI
 show At _ _ [(0, v), (1, .func (.func c) #[] cap.toArray), (7, .int .i64 (rs.length : Int)), (8, .int .i64 (k : Int))] _ _
 refine .seq (.region (.lss rfl rfl rfl (.ops0 (.thenN (.seq ?_)))))
 refine At.cond (b := decide ((k : Int) < (rs.length : Int))) rfl (fun hc1 => ?_) (fun hc1 => ?_)
 ·skip
  have hc1' := of_decide_eq_true hc1
  refine .skip (.thenN (.seq (.block (.seq (.region (.move rfl rfl (.assign rfl rfl (.ops0 (.thenN (.seq (.region (.move rfl rfl (.move rfl rfl (.move rfl rfl ?_))))))))))))))
  obtain ⟨u1, hu1⟩ := some_of_lt (l := rs) (i := k) (by omega)
  refine .indexAddr (i := k) rfl rfl hv.okL (lt_of_some hu1) el88 sz87 rfl (.load rfl (Ld.row ag87 (sz87.trans (congrArg some ((rl_ok u1)).size.symm)) (((hv).row hu1).keep hB)) rfl ?_)
  refine At.callV rfl hent rfl rfl (hclo u1 _ hB) (fun e w2 hR => ?_)
  obtain ⟨rfl, hbl1⟩ := hR
  refine ⟨_, rfl, ?_⟩
  replace hB := Below.andThen hB hbl1
  refine .ops0 (.thenN ?_)
  refine At.cond (b := (p u1)) rfl (fun hc2 => ?_) (fun hc2 => ?_)
  ·skip
   refine .seq (.region (.move rfl rfl (.assign rfl rfl (.ops0 (.thenN (.retc (.inR (.thenR (.thenR (.inR (.thenR (.doneR (ResV.tmp rfl ResV.nil) ?_))))))))))))
   exact ⟨congrArg Ending.returned (congrArg (Value.int .i64) (idxI_yes hu1 hc2 hn).symm), hB⟩
  ·skip
   refine .skip (.inN (.thenN (.region (.addI rfl rfl rfl (by omega) (.move rfl rfl (.ops0 (.thenN ?_)))))))
   exact fun act_ hact_ => ⟨(k + 1), hact_.sub (Sub.cons rfl (Sub.cons rfl (Sub.cons rfl (Sub.cons rfl Sub.nil)))), ⟨hB, (by omega), (next_no hn hu1 hc2)⟩, by first | omega | (dsimp only; omega)⟩
 ·skip
  have hc1' := of_decide_eq_false hc1
  refine .exit (.thenE (.thenE (.inE (.thenN (.seq (.region (.assign rfl rfl (.ops0 (.thenN (.retc (.doneR (ResV.tmp rfl ResV.nil) ?_)))))))))))
  exact ⟨congrArg Ending.returned (congrArg (Value.int .i64) (idxI_no (by omega) hn).symm), hB⟩
theorem lex_any (v : Value) (l : List UInt8) (m : Int) (w : World) (hv : BytesAt w v l) (hm : w.cell? ⟨0, 0, none⟩ = some (.int .i64 m)) :
  Calls Try.prog 15 ([v] : List Value).toArray w fun e w' => ∃ v', e = .returned (.tuple #[v', .int .i64 (lexA l : Int), .int .i64 (lexE l)]) ∧ Below w.heap.size w w' ∧ OwnR 47 4 Tk.cs w' v' (lexT l) ∧ ∀ g, v'.ownBlock = some g → w.heap.size ≤ g := by
 have hB := Below.refl w.heap.size w
 refine At.enter (N := 70) Try.func15 rfl rfl (by simp) [(0, v)] (by simp) ?_
 refine .seq (.region (.assign rfl rfl (.assign rfl rfl (.assign rfl rfl (.ops0 (.thenN (.seq (.seq (.region (.move rfl rfl (.lenSl rfl (BytesAt.ok hv) el22 rfl (.gtr rfl rfl rfl (.ops0 (.thenN ?_))))))))))))))
 refine At.cond (b := decide (1048576 < (l.length : Int))) rfl (fun hc1 => ?_) (fun hc1 => ?_)
 ·skip
  have hc1' := of_decide_eq_true hc1
  refine .seq (.region (.assign rfl rfl (.assign rfl rfl (.assign rfl rfl (.ops0 (.thenN (.retc (.thenR (.doneR (ResV.tmp rfl (ResV.tmp rfl (ResV.tmp rfl ResV.nil))) ?_)))))))))
  obtain ⟨e1, e2, e3⟩ := lex_big (l := l) (by omega)
  exact ⟨_, by rw [e2, e3]; rfl, hB, by rw [e1]; exact OwnR.nil _ _ _ _, fun g h => by cases h⟩
 ·skip
  have hc1' := of_decide_eq_false hc1
  refine .skip (.thenN (.seq (.region (.build (C := #[.func (.func 26) #[] #[], .func (.func 27) #[] #[]]) sd87 ze87 rfl (Bld.cons fo87_0 rfl (by first | decide | exact Nat.le_of_ble_eq_true rfl) (Bld.cons fo87_1 rfl (by first | decide | exact Nat.le_of_ble_eq_true rfl) (Bld.nil _))) rfl (.build (C := #[.func (.func 28) #[] #[], .func (.func 29) #[] #[]]) sd87 ze87 rfl (Bld.cons fo87_0 rfl (by first | decide | exact Nat.le_of_ble_eq_true rfl) (Bld.cons fo87_1 rfl (by first | decide | exact Nat.le_of_ble_eq_true rfl) (Bld.nil _))) rfl (.build (C := #[.func (.func 30) #[] #[], .func (.func 31) #[] #[]]) sd87 ze87 rfl (Bld.cons fo87_0 rfl (by first | decide | exact Nat.le_of_ble_eq_true rfl) (Bld.cons fo87_1 rfl (by first | decide | exact Nat.le_of_ble_eq_true rfl) (Bld.nil _))) rfl ?_))))))
  refine At.buildSlice (xs := [.tmp 17, .tmp 18, .tmp 19]) rfl rfl el88 sz87 ze87 (by intro v hv; simp only [List.mem_cons, List.not_mem_nil, or_false] at hv; rcases hv with rfl | rfl | rfl <;> first | rfl | simp [Value.cells, ((rl_ok Rl.d)).size, ((rl_ok Rl.l)).size, ((rl_ok Rl.s)).size]) rfl (by decide) rfl (fun b1 w1 F1 => ?_)
  have gb1 := F1.ge hB
  have hb1 : w1.heap[b1]? = some (.cells (([Rl.d, Rl.l, Rl.s].map Rl.cs).flatMap (·.toList)).toArray 87) := F1.new
  replace hB := F1.below' hB
  refine .assign rfl rfl (.ops0 (.thenN (.seq (.region (.move rfl rfl (.ofBytes (l := l) rfl (BytesAt.keep hv hB) el22 ik5 st9 rfl ?_))))))
  refine At.alloc ze9 rfl (fun b2 w2 F2 => ?_)
  have n_b1_b2 : b1 ≠ b2 := Nat.ne_of_lt (F2.lt hb1)
  have gb2 := F2.ge hB
  replace hb1 := F2.old hb1
  have hb2 : w2.heap[b2]? = some (.cells #[.string (⟨#[]⟩ : ByteArray)] 9) := F2.new
  replace hB := F2.below' hB
  refine At.store1 rfl rfl hb2 sz9 (by simp) rfl (fun w3 S1 => ?_)
  replace hb1 := S1.other hb1 n_b1_b2
  replace hb2 : w3.heap[b2]? = some (.cells #[.string (bs l)] 9) := S1.new
  replace hB := S1.below' hB gb2
  refine .ops0 (.thenN (.seq (.region (.assign rfl rfl (.ops0 (.thenN (.seq (.region ?_))))))))
  refine At.alloc ze3 rfl (fun b3 w4 F3 => ?_)
  have n_b1_b3 : b1 ≠ b3 := Nat.ne_of_lt (F3.lt hb1)
  have n_b2_b3 : b2 ≠ b3 := Nat.ne_of_lt (F3.lt hb2)
  have gb3 := F3.ge hB
  replace hb1 := F3.old hb1
  replace hb2 := F3.old hb2
  have hb3 : w4.heap[b3]? = some (.cells #[.int .i64 0] 3) := F3.new
  replace hB := F3.below' hB
  refine At.store1 rfl rfl hb3 sz3 (by simp) rfl (fun w5 S2 => ?_)
  replace hb1 := S2.other hb1 n_b1_b3
  replace hb2 := S2.other hb2 n_b2_b3
  replace hb3 : w5.heap[b3]? = some (.cells #[.int .i64 0] 3) := S2.new
  replace hB := S2.below' hB gb3
  refine .ops0 (.thenN (.block ?_))
  refine At.loop (Nat × Nat × Value × List Tk) (fun (b, a, vo, lo) => [(5, (.slice (some ⟨b1, 0, none⟩) 3 3)), (6, .pointer (some ⟨b2, 0, none⟩)), (7, vo), (8, .pointer (some ⟨b, 0, none⟩))]) (fun (b, a, vo, lo) w6 => Below w.heap.size w w6 ∧ w6.heap[b1]? = some (.cells (([Rl.d, Rl.l, Rl.s].map Rl.cs).flatMap (·.toList)).toArray 87) ∧ w6.heap[b2]? = some (.cells #[.string (bs l)] 9) ∧ w6.heap[b]? = some (.cells #[.int .i64 (a : Int)] 3) ∧ OwnR 47 4 Tk.cs w6 vo lo ∧ (w.heap.size ≤ b) ∧ (∀ g, vo.ownBlock = some g → w.heap.size ≤ g) ∧ (LexI l lo a)) (fun (b, a, vo, lo) => l.length - a) (b3, 0, .slice none 0 0, []) (Sub.cons rfl (Sub.cons rfl (Sub.cons rfl (Sub.cons rfl Sub.nil)))) ⟨hB, hb1, hb2, hb3, OwnR.nil _ _ _ _, (gb3), (fun g h => by cases h), (LexI.zero l)⟩ (fun gh w6 hI => ?_)
  obtain ⟨b, a, vo, lo⟩ := gh
  clear hB hb1 hb2 hb3
  obtain ⟨hB, hb1, hb2, hb, hrO, gb, gO, hI1⟩ := hI
  show At _ _ [(5, (.slice (some ⟨b1, 0, none⟩) 3 3)), (6, .pointer (some ⟨b2, 0, none⟩)), (7, vo), (8, .pointer (some ⟨b, 0, none⟩))] _ _
  have n_b1_b : b1 ≠ b := fun e => by rw [e] at hb1; rw [hb1] at hb; simp at hb
  have n_b2_b : b2 ≠ b := fun e => by rw [e] at hb2; rw [hb2] at hb; simp at hb
  have hal := hI1.1; have hol := hI1.2.2
  refine .seq (.block (.seq (.seq (.region (.load rfl (Ld.ownCell ag9 hb2 rfl) rfl (.load rfl (Ld.ownCell ag3 hb rfl) rfl ?_))))))
  have hle1 : a ≤ l.length := by omega
  refine .dropB (l := l) (h := a) rfl rfl st9 hle1 rfl ?_
  refine At.call en32 rfl rfl (blank_any (l.drop a) _ (by simp only [List.length_drop]; omega)) (fun e w' hR => ?_)
  obtain ⟨rfl, rfl⟩ := hR
  refine ⟨_, rfl, ?_⟩
  refine .assign rfl rfl (.ops0 (.thenN (.block ?_)))
  refine At.loop (Nat) (fun c => [(5, (.slice (some ⟨b1, 0, none⟩) 3 3)), (6, .pointer (some ⟨b2, 0, none⟩)), (7, vo), (8, .pointer (some ⟨b, 0, none⟩)), (9, .int .i64 (blank1 (l.drop c) : Int))]) (fun c w7 => Below w.heap.size w w7 ∧ w7.heap[b1]? = some (.cells (([Rl.d, Rl.l, Rl.s].map Rl.cs).flatMap (·.toList)).toArray 87) ∧ w7.heap[b2]? = some (.cells #[.string (bs l)] 9) ∧ w7.heap[b]? = some (.cells #[.int .i64 (c : Int)] 3) ∧ OwnR 47 4 Tk.cs w7 vo lo ∧ (a ≤ c) ∧ (LexI l lo c)) (fun c => l.length - c) (a : Nat) (Sub.cons rfl (Sub.cons rfl (Sub.cons rfl (Sub.cons rfl (Sub.cons rfl Sub.nil))))) ⟨hB, hb1, hb2, hb, hrO, (Nat.le_refl _), (hI1)⟩ (fun c w7 hI => ?_)
  clear hB hb1 hb2 hb hrO
  obtain ⟨hB, hb1, hb2, hb, hrO, hac, hI2⟩ := hI
  show At _ _ [(5, (.slice (some ⟨b1, 0, none⟩) 3 3)), (6, .pointer (some ⟨b2, 0, none⟩)), (7, vo), (8, .pointer (some ⟨b, 0, none⟩)), (9, .int .i64 (blank1 (l.drop c) : Int))] _ _
  have hcl := hI2.1; have hcol := hI2.2.2; have hbl := blank1_le (l.drop c); simp only [List.length_drop] at hbl
  refine .seq (.seq (.region (.move rfl rfl (.gtr rfl rfl rfl (.ops0 (.thenN ?_))))))
  refine At.cond (b := decide (0 < (blank1 (l.drop c) : Int))) rfl (fun hc2 => ?_) (fun hc2 => ?_)
  ·skip
   have hc2' := of_decide_eq_true hc2
   refine .skip (.thenN (.seq (.block (.region (.load rfl (Ld.ownCell ag3 hb rfl) rfl (.move rfl rfl (.addI rfl rfl rfl (by omega) ?_)))))))
   refine At.store1 rfl rfl hb sz3 (by simp) rfl (fun w8 S3 => ?_)
   replace hb1 := S3.other hb1 n_b1_b
   replace hb2 := S3.other hb2 n_b2_b
   replace hrO := hrO.set S3 (hrO.neT hb rfl)
   replace hb : w8.heap[b]? = some (.cells #[.int .i64 ((c : Int) + (blank1 (l.drop c) : Int))] 3) := S3.new
   replace hB := S3.below' hB gb
   refine .ops0 (.inN (.thenN (.region (.load rfl (Ld.ownCell ag9 hb2 rfl) rfl (.load rfl (Ld.ownCell ag3 hb rfl) rfl ?_)))))
   have hle2 : (c + (blank1 (l.drop c))) ≤ l.length := by omega
   refine .dropB (l := l) (h := (c + (blank1 (l.drop c)))) rfl rfl st9 hle2 rfl ?_
   refine At.call en32 rfl rfl (blank_any (l.drop (c + (blank1 (l.drop c)))) _ (by simp only [List.length_drop]; omega)) (fun e w' hR => ?_)
   obtain ⟨rfl, rfl⟩ := hR
   refine ⟨_, rfl, ?_⟩
   refine .assign rfl rfl (.ops0 (.thenN ?_))
   exact fun act_ hact_ => ⟨(c + blank1 (l.drop c)), hact_.sub (Sub.cons rfl (Sub.cons rfl (Sub.cons rfl (Sub.cons rfl (Sub.cons rfl Sub.nil))))), ⟨hB, hb1, hb2, hb, hrO, (by omega), (LexI.blank hI2 (by omega))⟩, by first | omega | (dsimp only; omega)⟩
  ·skip
   have hc2' := of_decide_eq_false hc2
   refine .exit (.thenE (.thenE (.inE (.thenN (.seq (.seq (.region (.load rfl (Ld.ownCell ag3 hb rfl) rfl (.load rfl (Ld.ownCell ag9 hb2 rfl) rfl (.lenB (l := l) rfl st9 rfl (.eqI rfl rfl rfl (.ops0 (.thenN ?_)))))))))))))
   refine At.cond (b := decide ((c : Int) = (l.length : Int))) rfl (fun hc3 => ?_) (fun hc3 => ?_)
   ·skip
    have hc3' := of_decide_eq_true hc3
    refine .seq (.region (.move rfl rfl (.assign rfl rfl (.assign rfl rfl (.assign rfl rfl (.ops0 (.thenN (.retc (.thenR (.inR (.thenR (.thenR (.inR (.doneR (ResV.tmp rfl (ResV.tmp rfl (ResV.tmp rfl ResV.nil))) ?_))))))))))))))
    obtain ⟨e1, e2, e3⟩ := lex_ok (l := l) (by omega) (LexI.stop hI2 (by omega) (by omega))
    exact ⟨_, by rw [e2, e3]; rfl, hB, by rw [e1]; exact hrO, gO⟩
   ·skip
    have hc3' := of_decide_eq_false hc3
    refine .skip (.thenN (.seq ?_))
    have hnb : ¬ 0 < blank1 (l.drop c) := by omega
    obtain ⟨uc, huc⟩ := some_of_lt (l := l) (i := c) (by omega)
    refine .region (.move rfl rfl (.makeFunc rfl rfl ?_))
    refine At.call en33 rfl rfl (indexR_any (.slice (some ⟨b1, 0, none⟩) 3 3) [Rl.d, Rl.l, Rl.s] 34 [.pointer (some ⟨b2, 0, none⟩), .pointer (some ⟨b, 0, none⟩)] (fun r => begB r uc) _ (rows_own (f := Rl.cs) (m := 3) hb1 (fun u hu => ((mem3 (Q := fun u => RlOk u) (rl_ok Rl.d) (rl_ok Rl.l) (rl_ok Rl.s)) u hu).size) rfl (by decide)) (by decide) en34 (fun r w1 hw => pick_any r b2 b l c uc w1 (Below.old hw hb2) (Below.old hw hb) huc)) (fun e w9 hR => ?_)
    obtain ⟨rfl, hbl1⟩ := hR
    refine ⟨_, rfl, ?_⟩
    replace hb1 := Below.old hbl1 hb1
    replace hb2 := Below.old hbl1 hb2
    replace hb := Below.old hbl1 hb
    replace hrO := hrO.below hbl1
    replace hB := Below.andThen hB hbl1
    refine .assign rfl rfl (.ops0 (.thenN (.seq ?_)))
    obtain ⟨j, hj, hjr⟩ := rule_at uc
    refine .set (d := 10) (u := .int .i64 (j : Int)) rfl (congrArg (Value.int .i64) hj) ?_
    have hle3 : c ≤ l.length := by omega
    refine .drawG (n := 17) mixed (by kernel_rfl) rfl (PanicOk.then (PanicOk.block (PanicOk.then (PanicOk.then (PanicOk.block PanicOk.body))))) ?_
    have hB := Below.drewB hB
    have hb1 : _ := (show w9.drew.heap[b1]? = _ from hb1)
    have hb2 : _ := (show w9.drew.heap[b2]? = _ from hb2)
    have hb : _ := (show w9.drew.heap[b]? = _ from hb)
    have hrO := hrO.drew
    refine At.wpcS (i := 0) (d := 45) ((.slice (some ⟨b1, 0, none⟩) 3 3)) (by kernel_rfl) rfl rfl rfl (fun Lx => ?_) ?_
    ·skip
     refine .move rfl rfl (.ops0 ?_)
     exact fun a ha => ⟨ha, rfl⟩
    refine At.wpcS (i := 1) (d := 46) (.int .i64 (j : Int)) (by kernel_rfl) rfl rfl rfl (fun Lx => ?_) ?_
    ·skip
     refine .move rfl rfl (.ops0 ?_)
     exact fun a ha => ⟨ha, rfl⟩
    refine At.wpcS (i := 2) (d := 47) (.pointer (some ⟨vBlock (.slice (some ⟨b1, 0, none⟩) 3 3), vOff (.slice (some ⟨b1, 0, none⟩) 3 3) + j * 2, none⟩)) (by kernel_rfl) rfl rfl rfl (fun Lx => ?_) ?_
    ·skip
     refine .indexAddr (i := j) rfl rfl ((rows_own (f := Rl.cs) (m := 3) hb1 (fun u hu => ((mem3 (Q := fun u => RlOk u) (rl_ok Rl.d) (rl_ok Rl.l) (rl_ok Rl.s)) u hu).size) rfl (by decide))).okL (lt_of_some hjr) el88 sz87 rfl (.ops0 ?_)
     exact fun a ha => ⟨ha, rfl⟩
    refine At.wpcS (i := 3) (d := 48) (.pointer (some ⟨vBlock (.slice (some ⟨b1, 0, none⟩) 3 3), vOff (.slice (some ⟨b1, 0, none⟩) 3 3) + j * 2 + 1, none⟩)) (by kernel_rfl) rfl rfl rfl (fun Lx => ?_) ?_
    ·skip
     refine .fieldAddr rfl fo87_1 rfl (.ops0 ?_)
     exact fun a ha => ⟨ha, rfl⟩
    refine At.wpcS (i := 4) (d := 49) (.func (.func (ruleOf uc).t) #[] ([] : List Value).toArray) (by kernel_rfl) rfl rfl rfl (fun Lx => ?_) ?_
    ·skip
     refine .load rfl (Ld.cell ag85 (cell_keep ((((rows_own (f := Rl.cs) (m := 3) hb1 (fun u hu => ((mem3 (Q := fun u => RlOk u) (rl_ok Rl.d) (rl_ok Rl.l) (rl_ok Rl.s)) u hu).size) rfl (by decide))).row hjr).get (((mem3 (Q := fun u => RlOk u) (rl_ok Rl.d) (rl_ok Rl.l) (rl_ok Rl.s)) (ruleOf uc) (List.mem_of_getElem? hjr))).c1) (Below.refl _ _))) rfl (.ops0 ?_)
     exact fun a ha => ⟨ha, rfl⟩
    refine At.wpcS (i := 5) (d := 50) (.string (bs l)) (by kernel_rfl) rfl rfl rfl (fun Lx => ?_) ?_
    ·skip
     refine .load rfl (Ld.ownCell ag9 hb2 rfl) rfl (.ops0 ?_)
     exact fun a ha => ⟨ha, rfl⟩
    refine At.wpcS (i := 6) (d := 51) (.int .i64 (c : Int)) (by kernel_rfl) rfl rfl rfl (fun Lx => ?_) ?_
    ·skip
     refine .load rfl (Ld.ownCell ag3 hb rfl) rfl (.ops0 ?_)
     exact fun a ha => ⟨ha, rfl⟩
    refine At.wpcS (i := 7) (d := 52) (.string (bs (l.drop c))) (by kernel_rfl) rfl rfl rfl (fun Lx => ?_) ?_
    ·skip
     refine .dropB (l := l) (h := c) rfl rfl st9 hle3 rfl (.ops0 ?_)
     exact fun a ha => ⟨ha, rfl⟩
    refine At.wpcE [8, 13] (by kernel_rfl) (by kernel_rfl) (.cons [] rfl (by kernel_rfl) ?_ (.cons [0, 1, 2, 3, 4, 5, 6, 7] rfl (by kernel_rfl) ?_ .nil))
    ·skip
     refine At.callV rfl (ent_t (ruleOf uc)) rfl rfl (take_any (ruleOf uc) (l.drop c) m _ (by simp only [List.length_drop]; omega) (drop_ne huc) (cell_keep hm hB)) (fun e w10 hR => ?_)
     obtain ⟨rfl, hbl2⟩ := hR
     refine ⟨_, rfl, ?_⟩
     replace hb1 := Below.old hbl2 hb1
     replace hb2 := Below.old hbl2 hb2
     replace hb := Below.old hbl2 hb
     replace hrO := hrO.below hbl2
     replace hB := Below.andThen hB hbl2
     refine .ops0 (.wpcN .nil ?_)
     refine At.wpcS (i := 9) (d := 44) (.tuple #[.agg (takR (ruleOf uc) (l.drop c)).tok.cs, .int .i64 ((takR (ruleOf uc) (l.drop c)).n : Int), .bool ((takR (ruleOf uc) (l.drop c)).ok)]) (by kernel_rfl) rfl rfl rfl (fun Lx => ?_) ?_
     ·skip
      refine .move rfl rfl (.ops0 ?_)
      exact fun a ha => ⟨ha, rfl⟩
     refine At.wpcS (i := 10) (d := 54) (.agg (takR (ruleOf uc) (l.drop c)).tok.cs) (by kernel_rfl) rfl rfl rfl (fun Lx => ?_) ?_
     ·skip
      refine .extract rfl rfl rfl (.ops0 ?_)
      exact fun a ha => ⟨ha, rfl⟩
     refine At.wpcS (i := 11) (d := 55) (.int .i64 ((takR (ruleOf uc) (l.drop c)).n : Int)) (by kernel_rfl) rfl rfl rfl (fun Lx => ?_) ?_
     ·skip
      refine .extract rfl rfl rfl (.ops0 ?_)
      exact fun a ha => ⟨ha, rfl⟩
     refine At.wpcS (i := 12) (d := 56) (.bool ((takR (ruleOf uc) (l.drop c)).ok)) (by kernel_rfl) rfl rfl rfl (fun Lx => ?_) ?_
     ·skip
      refine .extract rfl rfl rfl (.ops0 ?_)
      exact fun a ha => ⟨ha, rfl⟩
     refine At.wpcE [13] (by kernel_rfl) (by kernel_rfl) (.cons [9, 10, 11, 12] rfl (by kernel_rfl) ?_ .nil)
     refine At.alloc ze47 rfl (fun b4 w11 F4 => ?_)
     have q_hrO_b4 : some b4 ≠ Value.ownBlock vo := Own.neFresh hrO F4
     have n_b1_b4 : b1 ≠ b4 := Nat.ne_of_lt (F4.lt hb1)
     have n_b2_b4 : b2 ≠ b4 := Nat.ne_of_lt (F4.lt hb2)
     have n_b_b4 : b ≠ b4 := Nat.ne_of_lt (F4.lt hb)
     have gb4 := F4.ge hB
     replace hb1 := F4.old hb1
     replace hb2 := F4.old hb2
     replace hb := F4.old hb
     replace hrO := hrO.fresh F4
     have hb4 : w11.heap[b4]? = some (.cells #[.int .i64 0, .string (⟨#[]⟩ : ByteArray), .int .i64 0, .int .i64 0] 47) := F4.new
     replace hB := F4.below' hB
     refine .ops0 ?_
     refine At.wpcN (.cons rfl rfl rfl rfl (fun Lx => ?_) (.cons rfl rfl rfl rfl (fun Lx => ?_) (.cons rfl rfl rfl rfl (fun Lx => ?_) (.cons rfl rfl rfl rfl (fun Lx => ?_) .nil)))) ?_
     ·skip
      refine .move rfl rfl (.ops0 ?_)
      exact fun a ha => ⟨ha, rfl⟩
     ·skip
      refine .extract rfl rfl rfl (.ops0 ?_)
      exact fun a ha => ⟨ha, rfl⟩
     ·skip
      refine .extract rfl rfl rfl (.ops0 ?_)
      exact fun a ha => ⟨ha, rfl⟩
     ·skip
      refine .extract rfl rfl rfl (.ops0 ?_)
      exact fun a ha => ⟨ha, rfl⟩
     refine At.wpcE [14] (by kernel_rfl) (by kernel_rfl) (.cons [11, 12] rfl (by kernel_rfl) ?_ .nil)
     refine At.storeAll rfl rfl hb4 (sz47.trans (congrArg some ((tk_ok (takR (ruleOf uc) (l.drop c)).tok)).size.symm)) ((tk_ok (takR (ruleOf uc) (l.drop c)).tok)).size.symm ((tk_ok (takR (ruleOf uc) (l.drop c)).tok)).one (fun w12 S4 => ?_)
     replace hb1 := S4.other hb1 n_b1_b4
     replace hb2 := S4.other hb2 n_b2_b4
     replace hb := S4.other hb n_b_b4
     replace hrO := hrO.set S4 q_hrO_b4
     replace hb4 : w12.heap[b4]? = some (.cells (takR (ruleOf uc) (l.drop c)).tok.cs 47) := S4.new
     replace hB := S4.below' hB gb4
     refine .ops0 ?_
     refine At.wpcN (.cons rfl rfl rfl rfl (fun Lx => ?_) (.cons rfl rfl rfl rfl (fun Lx => ?_) .nil)) ?_
     ·skip
      refine .extract rfl rfl rfl (.ops0 ?_)
      exact fun a ha => ⟨ha, rfl⟩
     ·skip
      refine .extract rfl rfl rfl (.ops0 ?_)
      exact fun a ha => ⟨ha, rfl⟩
     refine At.wpcE [15] (by kernel_rfl) (by kernel_rfl) (.cons [12] rfl (by kernel_rfl) ?_ .nil)
     refine .assign rfl rfl (.ops0 ?_)
     refine At.wpcN (.cons rfl rfl rfl rfl (fun Lx => ?_) .nil) ?_
     ·skip
      refine .extract rfl rfl rfl (.ops0 ?_)
      exact fun a ha => ⟨ha, rfl⟩
     refine At.wpcE [16] (by kernel_rfl) (by kernel_rfl) (.cons [] rfl (by kernel_rfl) ?_ .nil)
     refine .assign rfl rfl (.ops0 (.wpcN .nil (.wpcZ (.thenN (.seq (.seq (.region (.move rfl rfl (.not rfl rfl (.ops0 (.thenN ?_)))))))))))
     refine At.cond (b := (!(takR (ruleOf uc) (l.drop c)).ok)) rfl (fun hc4 => ?_) (fun hc4 => ?_)
     ·skip
      refine .seq ?_
      refine At.draw mixed [(8, .pointer (some ⟨b, 0, none⟩))] (Sub.cons rfl Sub.nil) rfl (RS ([] : List (Nat × Obj))) (dF [.c (.int .i64 (c : Int)), .c ((.slice none 0 0)), .c (.int .i64 (c : Int)), .c (.int .i64 2)]) (RS.drew _ _) RS.trans (dF.stab (by simp)) ⟨?_, ?_, ?_, ?_, trivial⟩ (fun vals w' hRS hf => ?_)
      ·intro vals Lx w1 hRS hpre
       have hB := RS.below hRS hB (by simp)
       have hb1 := hRS.old _ _ (by simp) hb1
       have hb2 := hRS.old _ _ (by simp) hb2
       have hb := hRS.old _ _ (by simp) hb
       have hb4 := hRS.old _ _ (by simp) hb4
       refine .load rfl (Ld.ownCell ag3 hb rfl) rfl (.ops0 ?_)
       exact fun a ha => ⟨_, ha, RS.refl _ _, rfl⟩
      ·intro vals Lx w1 hRS hpre
       have hB := RS.below hRS hB (by simp)
       have hb1 := hRS.old _ _ (by simp) hb1
       have hb2 := hRS.old _ _ (by simp) hb2
       have hb := hRS.old _ _ (by simp) hb
       have hb4 := hRS.old _ _ (by simp) hb4
       refine .assign rfl rfl (.ops0 ?_)
       exact fun a ha => ⟨_, ha, RS.refl _ _, rfl⟩
      ·intro vals Lx w1 hRS hpre
       have hB := RS.below hRS hB (by simp)
       have hb1 := hRS.old _ _ (by simp) hb1
       have hb2 := hRS.old _ _ (by simp) hb2
       have hb := hRS.old _ _ (by simp) hb
       have hb4 := hRS.old _ _ (by simp) hb4
       have p0 : vals 0 = .int .i64 (c : Int) := hpre 0 (by decide)
       refine .set (d := 59) (v := vals 0) rfl p0 ?_
       have p1 : vals 1 = (.slice none 0 0) := hpre 1 (by decide)
       refine .set (d := 2) (v := vals 1) rfl p1 (.assign rfl rfl (.ops0 ?_))
       exact fun a ha => ⟨_, ((ha).drop2 (congrArg some p1)).drop2 (congrArg some p0), RS.refl _ _, rfl⟩
      ·intro vals Lx w1 hRS hpre
       have hB := RS.below hRS hB (by simp)
       have hb1 := hRS.old _ _ (by simp) hb1
       have hb2 := hRS.old _ _ (by simp) hb2
       have hb := hRS.old _ _ (by simp) hb
       have hb4 := hRS.old _ _ (by simp) hb4
       have p2 : vals 2 = .int .i64 (c : Int) := hpre 2 (by decide)
       refine .set (d := 3) (v := vals 2) rfl p2 ?_
       have p0 : vals 0 = .int .i64 (c : Int) := hpre 0 (by decide)
       refine .set (d := 59) (v := vals 0) rfl p0 ?_
       have p1 : vals 1 = (.slice none 0 0) := hpre 1 (by decide)
       refine .set (d := 2) (v := vals 1) rfl p1 (.assign rfl rfl (.ops0 ?_))
       exact fun a ha => ⟨_, (((ha).drop2 (congrArg some p1)).drop2 (congrArg some p0)).drop2 (congrArg some p2), RS.refl _ _, rfl⟩
      ·skip
       have hB := RS.below hRS hB (by simp)
       have hb1 := hRS.old _ _ (by simp) hb1
       have hb2 := hRS.old _ _ (by simp) hb2
       have hb := hRS.old _ _ (by simp) hb
       have hb4 := hRS.old _ _ (by simp) hb4
       have p1 : vals 1 = (.slice none 0 0) := hf 1 (by decide)
       have p2 : vals 2 = .int .i64 (c : Int) := hf 2 (by decide)
       have p3 : vals 3 = .int .i64 2 := hf 3 (by decide)
       refine .sub (L' := [(8, .pointer (some ⟨b, 0, none⟩)), (2, (.slice none 0 0)), (3, .int .i64 (c : Int)), (4, .int .i64 2)]) (Sub.cons rfl (Sub.cons (congrArg some p1) (Sub.cons (congrArg some p2) (Sub.cons (congrArg some p3) Sub.nil)))) (.thenN (.retc (.thenR (.inR (.thenR (.thenR (.inR (.doneR (ResV.tmp rfl (ResV.tmp rfl (ResV.tmp rfl ResV.nil))) ?_))))))))
       obtain ⟨e1, e2, e3⟩ := lex_bad (l := l) (by omega) (LexI.bad hI2 hnb huc (by simpa using hc4))
       exact ⟨_, by rw [e2, e3]; rfl, hB, by rw [e1]; exact OwnR.nil _ _ _ _, fun g h => by cases h⟩
     ·skip
      refine .skip (.thenN (.seq ?_))
      have hok : (takR (ruleOf uc) (l.drop c)).ok = true := by simpa using hc4
      have htk := take_le huc hok
      refine .region (.load rfl (Ld.ownCell ag3 hb rfl) rfl (.fieldAddr rfl fo47_3 rfl ?_))
      refine At.store1 rfl rfl hb4 sz3 (by rw [((tk_ok (takR (ruleOf uc) (l.drop c)).tok)).size]; decide) rfl (fun w14 S5 => ?_)
      replace hb1 := S5.other hb1 n_b1_b4
      replace hb2 := S5.other hb2 n_b2_b4
      replace hb := S5.other hb n_b_b4
      replace hrO := hrO.set S5 q_hrO_b4
      replace hb4 : w14.heap[b4]? = some (.cells (Tk.put (takR (ruleOf uc) (l.drop c)).tok c).cs 47) := S5.new
      replace hB := S5.below' hB gb4
      refine .ops0 (.thenN (.seq (.region (.move rfl rfl (.load rfl (Ld.own ag47 (sz47.trans (congrArg some ((tk_ok (Tk.put (takR (ruleOf uc) (l.drop c)).tok c))).size.symm)) hb4) rfl ?_)))))
      refine At.buildSlice (xs := [.tmp 63]) rfl rfl el43 sz47 ze47 (by intro v hv; simp only [List.mem_cons, List.not_mem_nil, or_false] at hv; rcases hv with rfl <;> first | rfl | simp [Value.cells, ((tk_ok (Tk.put (takR (ruleOf uc) (l.drop c)).tok c))).size]) rfl (by decide) rfl (fun b5 w15 F5 => ?_)
      have q_hrO_b5 : some b5 ≠ Value.ownBlock vo := Own.neFresh hrO F5
      have n_b1_b5 : b1 ≠ b5 := Nat.ne_of_lt (F5.lt hb1)
      have n_b2_b5 : b2 ≠ b5 := Nat.ne_of_lt (F5.lt hb2)
      have n_b_b5 : b ≠ b5 := Nat.ne_of_lt (F5.lt hb)
      have n_b4_b5 : b4 ≠ b5 := Nat.ne_of_lt (F5.lt hb4)
      have gb5 := F5.ge hB
      replace hb1 := F5.old hb1
      replace hb2 := F5.old hb2
      replace hb := F5.old hb
      replace hb4 := F5.old hb4
      replace hrO := hrO.fresh F5
      have hb5 : w15.heap[b5]? = some (.cells (([(Tk.put (takR (ruleOf uc) (l.drop c)).tok c)].map Tk.cs).flatMap (·.toList)).toArray 47) := F5.new
      replace hB := F5.below' hB
      refine At.appendR (f := Tk.cs) rfl rfl el43 el43 sz47 by47 ze47 rfl hrO (rows_own (f := Tk.cs) (m := 1) hb5 (fun u hu => ((mem1 (Q := fun u => TkOk u) (tk_ok (Tk.put (takR (ruleOf uc) (l.drop c)).tok c))) u hu).size) rfl (by decide)) (by decide) (fun u hu => (((mem1 (Q := fun u => TkOk u) (tk_ok (Tk.put (takR (ruleOf uc) (l.drop c)).tok c)))) u hu).one) (by simp; omega) (by simp; omega) rfl (fun va1 w16 hO1 hA1 => ?_)
      replace hO1 : OwnR 47 4 Tk.cs w16 va1 (lo ++ [(Tk.put (takR (ruleOf uc) (l.drop c)).tok c)]) := hO1
      replace hb1 := hA1.old hb1 (hrO.neT hb1 rfl)
      replace hb2 := hA1.old hb2 (hrO.neT hb2 rfl)
      replace hb := hA1.old hb (hrO.neT hb rfl)
      have q_hO1_b4 : some b4 ≠ Value.ownBlock va1 := Moved.ne hA1.blk (Array.getElem?_eq_some_iff.1 hb4).1 q_hrO_b4
      replace hb4 := hA1.old hb4 q_hrO_b4
      clear hb5
      have ghO1 := hA1.ge hB.size gO
      replace hB := hA1.below hB hB.size gO
      refine .assign rfl rfl (.ops0 (.thenN (.region (.load rfl (Ld.ownCell ag3 hb rfl) rfl (.move rfl rfl (.addI rfl rfl rfl (by omega) ?_))))))
      refine At.store1 rfl rfl hb sz3 (by simp) rfl (fun w17 S6 => ?_)
      replace hb1 := S6.other hb1 n_b1_b
      replace hb2 := S6.other hb2 n_b2_b
      replace hb4 := S6.other hb4 n_b_b4.symm
      replace hO1 := hO1.set S6 (hO1.neT hb rfl)
      replace hb : w17.heap[b]? = some (.cells #[.int .i64 ((c : Int) + ((takR (ruleOf uc) (l.drop c)).n : Int))] 3) := S6.new
      replace hB := S6.below' hB gb
      refine .ops0 (.inN (.thenN (.seq (.region (.load rfl (Ld.ownCell ag3 hb rfl) rfl (.ops0 (.thenN (.region ?_))))))))
      refine At.alloc ze3 rfl (fun b6 w18 F6 => ?_)
      have n_b1_b6 : b1 ≠ b6 := Nat.ne_of_lt (F6.lt hb1)
      have n_b2_b6 : b2 ≠ b6 := Nat.ne_of_lt (F6.lt hb2)
      have n_b_b6 : b ≠ b6 := Nat.ne_of_lt (F6.lt hb)
      have n_b4_b6 : b4 ≠ b6 := Nat.ne_of_lt (F6.lt hb4)
      have gb6 := F6.ge hB
      replace hb1 := F6.old hb1
      replace hb2 := F6.old hb2
      replace hb := F6.old hb
      replace hb4 := F6.old hb4
      replace hO1 := hO1.fresh F6
      have hb6 : w18.heap[b6]? = some (.cells #[.int .i64 0] 3) := F6.new
      replace hB := F6.below' hB
      refine At.store1 rfl rfl hb6 sz3 (by simp) rfl (fun w19 S7 => ?_)
      replace hb1 := S7.other hb1 n_b1_b6
      replace hb2 := S7.other hb2 n_b2_b6
      replace hb := S7.other hb n_b_b6
      replace hb4 := S7.other hb4 n_b4_b6
      replace hO1 := hO1.set S7 (hO1.neT hb6 rfl)
      replace hb6 : w19.heap[b6]? = some (.cells #[.int .i64 ((c : Int) + ((takR (ruleOf uc) (l.drop c)).n : Int))] 3) := S7.new
      replace hB := S7.below' hB gb6
      refine .ops0 (.thenN ?_)
      exact fun act_ hact_ => ⟨(b6, (c + (takR (ruleOf uc) (l.drop c)).n), va1, (lo ++ [(Tk.put (takR (ruleOf uc) (l.drop c)).tok c)])), hact_.sub (Sub.cons rfl (Sub.cons rfl (Sub.cons rfl (Sub.cons rfl Sub.nil)))), ⟨hB, hb1, hb2, hb6, hO1, (gb6), (ghO1), (LexI.word hI2 hnb huc hok)⟩, by first | omega | (dsimp only; omega)⟩
    ·skip
     refine At.alloc ze47 rfl (fun b7 w20 F7 => ?_)
     have q_hrO_b7 : some b7 ≠ Value.ownBlock vo := Own.neFresh hrO F7
     have n_b1_b7 : b1 ≠ b7 := Nat.ne_of_lt (F7.lt hb1)
     have n_b2_b7 : b2 ≠ b7 := Nat.ne_of_lt (F7.lt hb2)
     have n_b_b7 : b ≠ b7 := Nat.ne_of_lt (F7.lt hb)
     have gb7 := F7.ge hB
     replace hb1 := F7.old hb1
     replace hb2 := F7.old hb2
     replace hb := F7.old hb
     replace hrO := hrO.fresh F7
     have hb7 : w20.heap[b7]? = some (.cells #[.int .i64 0, .string (⟨#[]⟩ : ByteArray), .int .i64 0, .int .i64 0] 47) := F7.new
     replace hB := F7.below' hB
     refine .ops0 ?_
     refine At.wpcN (.cons rfl rfl rfl rfl (fun Lx => ?_) (.cons rfl rfl rfl rfl (fun Lx => ?_) (.cons rfl rfl rfl rfl (fun Lx => ?_) (.cons rfl rfl rfl rfl (fun Lx => ?_) (.cons rfl rfl rfl rfl (fun Lx => ?_) (.cons rfl rfl rfl rfl (fun Lx => ?_) (.cons rfl rfl rfl rfl (fun Lx => ?_) (.cons rfl rfl rfl rfl (fun Lx => ?_) .nil)))))))) ?_
     ·skip
      refine .move rfl rfl (.ops0 ?_)
      exact fun a ha => ⟨ha, rfl⟩
     ·skip
      refine .move rfl rfl (.ops0 ?_)
      exact fun a ha => ⟨ha, rfl⟩
     ·skip
      refine .indexAddr (i := j) rfl rfl ((rows_own (f := Rl.cs) (m := 3) hb1 (fun u hu => ((mem3 (Q := fun u => RlOk u) (rl_ok Rl.d) (rl_ok Rl.l) (rl_ok Rl.s)) u hu).size) rfl (by decide))).okL (lt_of_some hjr) el88 sz87 rfl (.ops0 ?_)
      exact fun a ha => ⟨ha, rfl⟩
     ·skip
      refine .fieldAddr rfl fo87_1 rfl (.ops0 ?_)
      exact fun a ha => ⟨ha, rfl⟩
     ·skip
      refine .load rfl (Ld.cell ag85 (cell_keep ((((rows_own (f := Rl.cs) (m := 3) hb1 (fun u hu => ((mem3 (Q := fun u => RlOk u) (rl_ok Rl.d) (rl_ok Rl.l) (rl_ok Rl.s)) u hu).size) rfl (by decide))).row hjr).get (((mem3 (Q := fun u => RlOk u) (rl_ok Rl.d) (rl_ok Rl.l) (rl_ok Rl.s)) (ruleOf uc) (List.mem_of_getElem? hjr))).c1) (Below.refl _ _))) rfl (.ops0 ?_)
      exact fun a ha => ⟨ha, rfl⟩
     ·skip
      refine .load rfl (Ld.ownCell ag9 hb2 rfl) rfl (.ops0 ?_)
      exact fun a ha => ⟨ha, rfl⟩
     ·skip
      refine .load rfl (Ld.ownCell ag3 hb rfl) rfl (.ops0 ?_)
      exact fun a ha => ⟨ha, rfl⟩
     ·skip
      refine .dropB (l := l) (h := c) rfl rfl st9 hle3 rfl (.ops0 ?_)
      exact fun a ha => ⟨ha, rfl⟩
     refine At.wpcE [8] (by kernel_rfl) (by kernel_rfl) (.cons [] rfl (by kernel_rfl) ?_ .nil)
     refine At.callV rfl (ent_t (ruleOf uc)) rfl rfl (take_any (ruleOf uc) (l.drop c) m _ (by simp only [List.length_drop]; omega) (drop_ne huc) (cell_keep hm hB)) (fun e w21 hR => ?_)
     obtain ⟨rfl, hbl3⟩ := hR
     refine ⟨_, rfl, ?_⟩
     replace hb1 := Below.old hbl3 hb1
     replace hb2 := Below.old hbl3 hb2
     replace hb := Below.old hbl3 hb
     replace hb7 := Below.old hbl3 hb7
     replace hrO := hrO.below hbl3
     replace hB := Below.andThen hB hbl3
     refine .ops0 (.wpcN .nil ?_)
     refine At.wpcS (i := 9) (d := 44) (.tuple #[.agg (takR (ruleOf uc) (l.drop c)).tok.cs, .int .i64 ((takR (ruleOf uc) (l.drop c)).n : Int), .bool ((takR (ruleOf uc) (l.drop c)).ok)]) (by kernel_rfl) rfl rfl rfl (fun Lx => ?_) ?_
     ·skip
      refine .move rfl rfl (.ops0 ?_)
      exact fun a ha => ⟨ha, rfl⟩
     refine At.wpcS (i := 10) (d := 54) (.agg (takR (ruleOf uc) (l.drop c)).tok.cs) (by kernel_rfl) rfl rfl rfl (fun Lx => ?_) ?_
     ·skip
      refine .extract rfl rfl rfl (.ops0 ?_)
      exact fun a ha => ⟨ha, rfl⟩
     refine At.wpcS (i := 11) (d := 55) (.int .i64 ((takR (ruleOf uc) (l.drop c)).n : Int)) (by kernel_rfl) rfl rfl rfl (fun Lx => ?_) ?_
     ·skip
      refine .extract rfl rfl rfl (.ops0 ?_)
      exact fun a ha => ⟨ha, rfl⟩
     refine At.wpcS (i := 12) (d := 56) (.bool ((takR (ruleOf uc) (l.drop c)).ok)) (by kernel_rfl) rfl rfl rfl (fun Lx => ?_) ?_
     ·skip
      refine .extract rfl rfl rfl (.ops0 ?_)
      exact fun a ha => ⟨ha, rfl⟩
     refine At.wpcE [14] (by kernel_rfl) (by kernel_rfl) (.cons [11, 12] rfl (by kernel_rfl) ?_ .nil)
     refine At.storeAll rfl rfl hb7 (sz47.trans (congrArg some ((tk_ok (takR (ruleOf uc) (l.drop c)).tok)).size.symm)) ((tk_ok (takR (ruleOf uc) (l.drop c)).tok)).size.symm ((tk_ok (takR (ruleOf uc) (l.drop c)).tok)).one (fun w22 S8 => ?_)
     replace hb1 := S8.other hb1 n_b1_b7
     replace hb2 := S8.other hb2 n_b2_b7
     replace hb := S8.other hb n_b_b7
     replace hrO := hrO.set S8 q_hrO_b7
     replace hb7 : w22.heap[b7]? = some (.cells (takR (ruleOf uc) (l.drop c)).tok.cs 47) := S8.new
     replace hB := S8.below' hB gb7
     refine .ops0 ?_
     refine At.wpcN (.cons rfl rfl rfl rfl (fun Lx => ?_) (.cons rfl rfl rfl rfl (fun Lx => ?_) .nil)) ?_
     ·skip
      refine .extract rfl rfl rfl (.ops0 ?_)
      exact fun a ha => ⟨ha, rfl⟩
     ·skip
      refine .extract rfl rfl rfl (.ops0 ?_)
      exact fun a ha => ⟨ha, rfl⟩
     refine At.wpcE [15] (by kernel_rfl) (by kernel_rfl) (.cons [12] rfl (by kernel_rfl) ?_ .nil)
     refine .assign rfl rfl (.ops0 ?_)
     refine At.wpcN (.cons rfl rfl rfl rfl (fun Lx => ?_) .nil) ?_
     ·skip
      refine .extract rfl rfl rfl (.ops0 ?_)
      exact fun a ha => ⟨ha, rfl⟩
     refine At.wpcE [16] (by kernel_rfl) (by kernel_rfl) (.cons [] rfl (by kernel_rfl) ?_ .nil)
     refine .assign rfl rfl (.ops0 (.wpcN .nil (.wpcZ (.thenN (.seq (.seq (.region (.move rfl rfl (.not rfl rfl (.ops0 (.thenN ?_)))))))))))
     refine At.cond (b := (!(takR (ruleOf uc) (l.drop c)).ok)) rfl (fun hc5 => ?_) (fun hc5 => ?_)
     ·skip
      refine .seq ?_
      refine At.draw mixed [(8, .pointer (some ⟨b, 0, none⟩))] (Sub.cons rfl Sub.nil) rfl (RS ([] : List (Nat × Obj))) (dF [.c (.int .i64 (c : Int)), .c ((.slice none 0 0)), .c (.int .i64 (c : Int)), .c (.int .i64 2)]) (RS.drew _ _) RS.trans (dF.stab (by simp)) ⟨?_, ?_, ?_, ?_, trivial⟩ (fun vals w' hRS hf => ?_)
      ·intro vals Lx w1 hRS hpre
       have hB := RS.below hRS hB (by simp)
       have hb1 := hRS.old _ _ (by simp) hb1
       have hb2 := hRS.old _ _ (by simp) hb2
       have hb := hRS.old _ _ (by simp) hb
       have hb7 := hRS.old _ _ (by simp) hb7
       refine .load rfl (Ld.ownCell ag3 hb rfl) rfl (.ops0 ?_)
       exact fun a ha => ⟨_, ha, RS.refl _ _, rfl⟩
      ·intro vals Lx w1 hRS hpre
       have hB := RS.below hRS hB (by simp)
       have hb1 := hRS.old _ _ (by simp) hb1
       have hb2 := hRS.old _ _ (by simp) hb2
       have hb := hRS.old _ _ (by simp) hb
       have hb7 := hRS.old _ _ (by simp) hb7
       refine .assign rfl rfl (.ops0 ?_)
       exact fun a ha => ⟨_, ha, RS.refl _ _, rfl⟩
      ·intro vals Lx w1 hRS hpre
       have hB := RS.below hRS hB (by simp)
       have hb1 := hRS.old _ _ (by simp) hb1
       have hb2 := hRS.old _ _ (by simp) hb2
       have hb := hRS.old _ _ (by simp) hb
       have hb7 := hRS.old _ _ (by simp) hb7
       have p0 : vals 0 = .int .i64 (c : Int) := hpre 0 (by decide)
       refine .set (d := 59) (v := vals 0) rfl p0 ?_
       have p1 : vals 1 = (.slice none 0 0) := hpre 1 (by decide)
       refine .set (d := 2) (v := vals 1) rfl p1 (.assign rfl rfl (.ops0 ?_))
       exact fun a ha => ⟨_, ((ha).drop2 (congrArg some p1)).drop2 (congrArg some p0), RS.refl _ _, rfl⟩
      ·intro vals Lx w1 hRS hpre
       have hB := RS.below hRS hB (by simp)
       have hb1 := hRS.old _ _ (by simp) hb1
       have hb2 := hRS.old _ _ (by simp) hb2
       have hb := hRS.old _ _ (by simp) hb
       have hb7 := hRS.old _ _ (by simp) hb7
       have p2 : vals 2 = .int .i64 (c : Int) := hpre 2 (by decide)
       refine .set (d := 3) (v := vals 2) rfl p2 ?_
       have p0 : vals 0 = .int .i64 (c : Int) := hpre 0 (by decide)
       refine .set (d := 59) (v := vals 0) rfl p0 ?_
       have p1 : vals 1 = (.slice none 0 0) := hpre 1 (by decide)
       refine .set (d := 2) (v := vals 1) rfl p1 (.assign rfl rfl (.ops0 ?_))
       exact fun a ha => ⟨_, (((ha).drop2 (congrArg some p1)).drop2 (congrArg some p0)).drop2 (congrArg some p2), RS.refl _ _, rfl⟩
      ·skip
       have hB := RS.below hRS hB (by simp)
       have hb1 := hRS.old _ _ (by simp) hb1
       have hb2 := hRS.old _ _ (by simp) hb2
       have hb := hRS.old _ _ (by simp) hb
       have hb7 := hRS.old _ _ (by simp) hb7
       have p1 : vals 1 = (.slice none 0 0) := hf 1 (by decide)
       have p2 : vals 2 = .int .i64 (c : Int) := hf 2 (by decide)
       have p3 : vals 3 = .int .i64 2 := hf 3 (by decide)
       refine .sub (L' := [(8, .pointer (some ⟨b, 0, none⟩)), (2, (.slice none 0 0)), (3, .int .i64 (c : Int)), (4, .int .i64 2)]) (Sub.cons rfl (Sub.cons (congrArg some p1) (Sub.cons (congrArg some p2) (Sub.cons (congrArg some p3) Sub.nil)))) (.thenN (.retc (.thenR (.inR (.thenR (.thenR (.inR (.doneR (ResV.tmp rfl (ResV.tmp rfl (ResV.tmp rfl ResV.nil))) ?_))))))))
       obtain ⟨e1, e2, e3⟩ := lex_bad (l := l) (by omega) (LexI.bad hI2 hnb huc (by simpa using hc5))
       exact ⟨_, by rw [e2, e3]; rfl, hB, by rw [e1]; exact OwnR.nil _ _ _ _, fun g h => by cases h⟩
     ·skip
      refine .skip (.thenN (.seq ?_))
      have hok : (takR (ruleOf uc) (l.drop c)).ok = true := by simpa using hc5
      have htk := take_le huc hok
      refine .region (.load rfl (Ld.ownCell ag3 hb rfl) rfl (.fieldAddr rfl fo47_3 rfl ?_))
      refine At.store1 rfl rfl hb7 sz3 (by rw [((tk_ok (takR (ruleOf uc) (l.drop c)).tok)).size]; decide) rfl (fun w24 S9 => ?_)
      replace hb1 := S9.other hb1 n_b1_b7
      replace hb2 := S9.other hb2 n_b2_b7
      replace hb := S9.other hb n_b_b7
      replace hrO := hrO.set S9 q_hrO_b7
      replace hb7 : w24.heap[b7]? = some (.cells (Tk.put (takR (ruleOf uc) (l.drop c)).tok c).cs 47) := S9.new
      replace hB := S9.below' hB gb7
      refine .ops0 (.thenN (.seq (.region (.move rfl rfl (.load rfl (Ld.own ag47 (sz47.trans (congrArg some ((tk_ok (Tk.put (takR (ruleOf uc) (l.drop c)).tok c))).size.symm)) hb7) rfl ?_)))))
      refine At.buildSlice (xs := [.tmp 63]) rfl rfl el43 sz47 ze47 (by intro v hv; simp only [List.mem_cons, List.not_mem_nil, or_false] at hv; rcases hv with rfl <;> first | rfl | simp [Value.cells, ((tk_ok (Tk.put (takR (ruleOf uc) (l.drop c)).tok c))).size]) rfl (by decide) rfl (fun b8 w25 F8 => ?_)
      have q_hrO_b8 : some b8 ≠ Value.ownBlock vo := Own.neFresh hrO F8
      have n_b1_b8 : b1 ≠ b8 := Nat.ne_of_lt (F8.lt hb1)
      have n_b2_b8 : b2 ≠ b8 := Nat.ne_of_lt (F8.lt hb2)
      have n_b_b8 : b ≠ b8 := Nat.ne_of_lt (F8.lt hb)
      have n_b7_b8 : b7 ≠ b8 := Nat.ne_of_lt (F8.lt hb7)
      have gb8 := F8.ge hB
      replace hb1 := F8.old hb1
      replace hb2 := F8.old hb2
      replace hb := F8.old hb
      replace hb7 := F8.old hb7
      replace hrO := hrO.fresh F8
      have hb8 : w25.heap[b8]? = some (.cells (([(Tk.put (takR (ruleOf uc) (l.drop c)).tok c)].map Tk.cs).flatMap (·.toList)).toArray 47) := F8.new
      replace hB := F8.below' hB
      refine At.appendR (f := Tk.cs) rfl rfl el43 el43 sz47 by47 ze47 rfl hrO (rows_own (f := Tk.cs) (m := 1) hb8 (fun u hu => ((mem1 (Q := fun u => TkOk u) (tk_ok (Tk.put (takR (ruleOf uc) (l.drop c)).tok c))) u hu).size) rfl (by decide)) (by decide) (fun u hu => (((mem1 (Q := fun u => TkOk u) (tk_ok (Tk.put (takR (ruleOf uc) (l.drop c)).tok c)))) u hu).one) (by simp; omega) (by simp; omega) rfl (fun va2 w26 hO2 hA2 => ?_)
      replace hO2 : OwnR 47 4 Tk.cs w26 va2 (lo ++ [(Tk.put (takR (ruleOf uc) (l.drop c)).tok c)]) := hO2
      replace hb1 := hA2.old hb1 (hrO.neT hb1 rfl)
      replace hb2 := hA2.old hb2 (hrO.neT hb2 rfl)
      replace hb := hA2.old hb (hrO.neT hb rfl)
      have q_hO2_b7 : some b7 ≠ Value.ownBlock va2 := Moved.ne hA2.blk (Array.getElem?_eq_some_iff.1 hb7).1 q_hrO_b7
      replace hb7 := hA2.old hb7 q_hrO_b7
      clear hb8
      have ghO2 := hA2.ge hB.size gO
      replace hB := hA2.below hB hB.size gO
      refine .assign rfl rfl (.ops0 (.thenN (.region (.load rfl (Ld.ownCell ag3 hb rfl) rfl (.move rfl rfl (.addI rfl rfl rfl (by omega) ?_))))))
      refine At.store1 rfl rfl hb sz3 (by simp) rfl (fun w27 S10 => ?_)
      replace hb1 := S10.other hb1 n_b1_b
      replace hb2 := S10.other hb2 n_b2_b
      replace hb7 := S10.other hb7 n_b_b7.symm
      replace hO2 := hO2.set S10 (hO2.neT hb rfl)
      replace hb : w27.heap[b]? = some (.cells #[.int .i64 ((c : Int) + ((takR (ruleOf uc) (l.drop c)).n : Int))] 3) := S10.new
      replace hB := S10.below' hB gb
      refine .ops0 (.inN (.thenN (.seq (.region (.load rfl (Ld.ownCell ag3 hb rfl) rfl (.ops0 (.thenN (.region ?_))))))))
      refine At.alloc ze3 rfl (fun b9 w28 F9 => ?_)
      have n_b1_b9 : b1 ≠ b9 := Nat.ne_of_lt (F9.lt hb1)
      have n_b2_b9 : b2 ≠ b9 := Nat.ne_of_lt (F9.lt hb2)
      have n_b_b9 : b ≠ b9 := Nat.ne_of_lt (F9.lt hb)
      have n_b7_b9 : b7 ≠ b9 := Nat.ne_of_lt (F9.lt hb7)
      have gb9 := F9.ge hB
      replace hb1 := F9.old hb1
      replace hb2 := F9.old hb2
      replace hb := F9.old hb
      replace hb7 := F9.old hb7
      replace hO2 := hO2.fresh F9
      have hb9 : w28.heap[b9]? = some (.cells #[.int .i64 0] 3) := F9.new
      replace hB := F9.below' hB
      refine At.store1 rfl rfl hb9 sz3 (by simp) rfl (fun w29 S11 => ?_)
      replace hb1 := S11.other hb1 n_b1_b9
      replace hb2 := S11.other hb2 n_b2_b9
      replace hb := S11.other hb n_b_b9
      replace hb7 := S11.other hb7 n_b7_b9
      replace hO2 := hO2.set S11 (hO2.neT hb9 rfl)
      replace hb9 : w29.heap[b9]? = some (.cells #[.int .i64 ((c : Int) + ((takR (ruleOf uc) (l.drop c)).n : Int))] 3) := S11.new
      replace hB := S11.below' hB gb9
      refine .ops0 (.thenN ?_)
      exact fun act_ hact_ => ⟨(b9, (c + (takR (ruleOf uc) (l.drop c)).n), va2, (lo ++ [(Tk.put (takR (ruleOf uc) (l.drop c)).tok c)])), hact_.sub (Sub.cons rfl (Sub.cons rfl (Sub.cons rfl (Sub.cons rfl Sub.nil)))), ⟨hB, hb1, hb2, hb9, hO2, (gb9), (ghO2), (LexI.word hI2 hnb huc hok)⟩, by first | omega | (dsimp only; omega)⟩
end Go.Proofs.Ytkjmjnddanhapaa
