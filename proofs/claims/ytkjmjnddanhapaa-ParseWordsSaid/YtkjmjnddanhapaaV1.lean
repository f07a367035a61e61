/-
 The walks of what a byte is and of how many bytes are so: what each call does, for every argument. Written by a program of ours.
-/
import Derived.Test.YtkjmjnddanhapaaL2
import Derived.Test.YtkjmjnddanhapaaShelf
import Derived.Test.YtkjmjnddanhapaaChecked
set_option linter.unusedVariables false
set_option linter.unusedSimpArgs false
namespace Go.Proofs.Ytkjmjnddanhapaa
open Go.RowKit
theorem ag47 : aggB Try.prog 47 = some true := by kernel_rfl
theorem ag5 : aggB Try.prog 5 = some false := by kernel_rfl
theorem ag9 : aggB Try.prog 9 = some false := by kernel_rfl
theorem el22 : elemB Try.prog 22 = some 5 := by kernel_rfl
theorem en26 : entB Try.prog 26 = true := by kernel_rfl
theorem en28 : entB Try.prog 28 = true := by kernel_rfl
theorem en48 : entB Try.prog 48 = true := by kernel_rfl
theorem en49 : entB Try.prog 49 = true := by kernel_rfl
theorem en50 : entB Try.prog 50 = true := by kernel_rfl
theorem en51 : entB Try.prog 51 = true := by kernel_rfl
theorem en56 : entB Try.prog 56 = true := by kernel_rfl
theorem en57 : entB Try.prog 57 = true := by kernel_rfl
theorem en58 : entB Try.prog 58 = true := by kernel_rfl
theorem fo47_0 : fieldB Try.prog 47 0 = some (0, 1) := by kernel_rfl
theorem fo47_1 : fieldB Try.prog 47 1 = some (1, 1) := by kernel_rfl
theorem fo47_2 : fieldB Try.prog 47 2 = some (2, 1) := by kernel_rfl
theorem ik3 : intKB Try.prog 3 = some .i64 := by kernel_rfl
theorem ik5 : intKB Try.prog 5 = some .u8 := by kernel_rfl
theorem sd47 : sizedB Try.prog 47 = true := by kernel_rfl
theorem st9 : strB Try.prog 9 = true := by kernel_rfl
theorem sz3 : sizeB Try.prog 3 = some 1 := by kernel_rfl
theorem sz47 : sizeB Try.prog 47 = some 4 := by kernel_rfl
theorem sz5 : sizeB Try.prog 5 = some 1 := by kernel_rfl
theorem ze47 : zeroB Try.prog 47 = some (.agg #[.int .i64 0, .string (⟨#[]⟩ : ByteArray), .int .i64 0, .int .i64 0]) := by kernel_rfl
theorem digit_any (u : UInt8) (w : World)  :
  Calls Try.prog 26 ([.int .u8 (u.toNat : Int)] : List Value).toArray w fun e w' => e = .returned (.bool (digB u)) ∧ w = w' := by
 have hB := Below.refl w.heap.size w
 refine At.enter (N := 9) Try.func26 rfl rfl (by simp) [(0, .int .u8 (u.toNat : Int))] (by simp) ?_
 refine .seq (.region (.assign rfl rfl (.ops0 (.thenN (.seq (.region (.move rfl rfl (.geq rfl rfl rfl (.move rfl rfl ?_)))))))))
 refine At.cases (decide (48 ≤ (u.toNat : Int))) (fun hg1 => ?_) (fun hg1 => ?_)
 ·skip
  refine .set (d := 5) (u := .bool true) rfl (congrArg Value.bool hg1) ?_
  have hg1' := of_decide_eq_true hg1
  refine .yes rfl rfl rfl rfl (.move rfl rfl (.yes rfl rfl rfl rfl (.leq rfl rfl rfl (.pickT rfl rfl rfl (.assign rfl rfl (.ops0 (.thenN (.retc (.doneR (ResV.tmp rfl ResV.nil) ?_)))))))))
  exact ⟨congrArg Ending.returned (congrArg Value.bool (Eq.symm (by first | rfl | (simp only [digB, hg1, Bool.true_or, Bool.or_true, Bool.false_or, Bool.or_false, Bool.true_and, Bool.and_true, Bool.false_and, Bool.and_false])))), rfl⟩
 ·skip
  refine .set (d := 5) (u := .bool false) rfl (congrArg Value.bool hg1) ?_
  have hg1' := of_decide_eq_false hg1
  refine .no rfl rfl rfl rfl rfl rfl rfl (.no rfl rfl rfl rfl rfl rfl rfl (.pickF rfl rfl rfl (.assign rfl rfl (.ops0 (.thenN (.retc (.doneR (ResV.tmp rfl ResV.nil) ?_)))))))
  exact ⟨congrArg Ending.returned (congrArg Value.bool (Eq.symm (by first | rfl | (simp only [digB, hg1, Bool.true_or, Bool.or_true, Bool.false_or, Bool.or_false, Bool.true_and, Bool.and_true, Bool.false_and, Bool.and_false])))), rfl⟩
theorem large_any (u : UInt8) (w : World)  :
  Calls Try.prog 49 ([.int .u8 (u.toNat : Int)] : List Value).toArray w fun e w' => e = .returned (.bool (largB u)) ∧ w = w' := by
 have hB := Below.refl w.heap.size w
 refine At.enter (N := 9) Try.func49 rfl rfl (by simp) [(0, .int .u8 (u.toNat : Int))] (by simp) ?_
 refine .seq (.region (.assign rfl rfl (.ops0 (.thenN (.seq (.region (.move rfl rfl (.geq rfl rfl rfl (.move rfl rfl ?_)))))))))
 refine At.cases (decide (65 ≤ (u.toNat : Int))) (fun hg1 => ?_) (fun hg1 => ?_)
 ·skip
  refine .set (d := 5) (u := .bool true) rfl (congrArg Value.bool hg1) ?_
  have hg1' := of_decide_eq_true hg1
  refine .yes rfl rfl rfl rfl (.move rfl rfl (.yes rfl rfl rfl rfl (.leq rfl rfl rfl (.pickT rfl rfl rfl (.assign rfl rfl (.ops0 (.thenN (.retc (.doneR (ResV.tmp rfl ResV.nil) ?_)))))))))
  exact ⟨congrArg Ending.returned (congrArg Value.bool (Eq.symm (by first | rfl | (simp only [largB, hg1, Bool.true_or, Bool.or_true, Bool.false_or, Bool.or_false, Bool.true_and, Bool.and_true, Bool.false_and, Bool.and_false])))), rfl⟩
 ·skip
  refine .set (d := 5) (u := .bool false) rfl (congrArg Value.bool hg1) ?_
  have hg1' := of_decide_eq_false hg1
  refine .no rfl rfl rfl rfl rfl rfl rfl (.no rfl rfl rfl rfl rfl rfl rfl (.pickF rfl rfl rfl (.assign rfl rfl (.ops0 (.thenN (.retc (.doneR (ResV.tmp rfl ResV.nil) ?_)))))))
  exact ⟨congrArg Ending.returned (congrArg Value.bool (Eq.symm (by first | rfl | (simp only [largB, hg1, Bool.true_or, Bool.or_true, Bool.false_or, Bool.or_false, Bool.true_and, Bool.and_true, Bool.false_and, Bool.and_false])))), rfl⟩
theorem letter_any (u : UInt8) (w : World)  :
  Calls Try.prog 28 ([.int .u8 (u.toNat : Int)] : List Value).toArray w fun e w' => e = .returned (.bool (letB u)) ∧ w = w' := by
 have hB := Below.refl w.heap.size w
 refine At.enter (N := 17) Try.func28 rfl rfl (by simp) [(0, .int .u8 (u.toNat : Int))] (by simp) ?_
 refine .seq (.region (.assign rfl rfl (.ops0 (.thenN (.seq (.region (.move rfl rfl ?_)))))))
 refine At.call en49 rfl rfl (large_any u _) (fun e w' hR => ?_)
 obtain ⟨rfl, rfl⟩ := hR
 refine ⟨_, rfl, ?_⟩
 refine .move rfl rfl ?_
 refine At.cases ((largB u)) (fun hg1 => ?_) (fun hg1 => ?_)
 ·skip
  refine .set (d := 5) (u := .bool true) rfl (congrArg Value.bool hg1) (.no rfl rfl rfl rfl rfl rfl rfl (.no rfl rfl rfl rfl rfl rfl rfl (.no rfl rfl rfl rfl rfl rfl rfl (.noU rfl rfl rfl rfl rfl rfl (.noU rfl rfl rfl rfl rfl rfl (.no rfl rfl rfl rfl rfl rfl rfl (.pickT rfl rfl rfl (.move rfl rfl (.no rfl rfl rfl rfl rfl rfl rfl (.no rfl rfl rfl rfl rfl rfl rfl (.pickT rfl rfl rfl (.assign rfl rfl (.ops0 (.thenN (.retc (.doneR (ResV.tmp rfl ResV.nil) ?_))))))))))))))))
  exact ⟨congrArg Ending.returned (congrArg Value.bool (Eq.symm (by first | rfl | (simp only [letB, hg1, Bool.true_or, Bool.or_true, Bool.false_or, Bool.or_false, Bool.true_and, Bool.and_true, Bool.false_and, Bool.and_false])))), rfl⟩
 ·skip
  refine .set (d := 5) (u := .bool false) rfl (congrArg Value.bool hg1) (.yes rfl rfl rfl rfl (.move rfl rfl (.yes rfl rfl rfl rfl (.geq rfl rfl rfl (.yes rfl rfl rfl rfl (.move rfl rfl ?_))))))
  refine At.cases (decide (97 ≤ (u.toNat : Int))) (fun hg2 => ?_) (fun hg2 => ?_)
  ·skip
   refine .set (d := 8) (u := .bool true) rfl (congrArg Value.bool hg2) ?_
   have hg2' := of_decide_eq_true hg2
   refine .yes rfl rfl rfl rfl (.move rfl rfl (.yes rfl rfl rfl rfl (.leq rfl rfl rfl (.yes rfl rfl rfl rfl (.pickT rfl rfl rfl (.pickF rfl rfl rfl (.move rfl rfl ?_)))))))
   refine At.cases (decide ((u.toNat : Int) ≤ 122)) (fun hg3 => ?_) (fun hg3 => ?_)
   ·skip
    refine .set (d := 13) (u := .bool true) rfl (congrArg Value.bool hg3) ?_
    have hg3' := of_decide_eq_true hg3
    refine .no rfl rfl rfl rfl rfl rfl rfl (.no rfl rfl rfl rfl rfl rfl rfl (.pickT rfl rfl rfl (.assign rfl rfl (.ops0 (.thenN (.retc (.doneR (ResV.tmp rfl ResV.nil) ?_)))))))
    exact ⟨congrArg Ending.returned (congrArg Value.bool (Eq.symm (by first | rfl | (simp only [letB, hg1, hg2, hg3, Bool.true_or, Bool.or_true, Bool.false_or, Bool.or_false, Bool.true_and, Bool.and_true, Bool.false_and, Bool.and_false])))), rfl⟩
   ·skip
    refine .set (d := 13) (u := .bool false) rfl (congrArg Value.bool hg3) ?_
    have hg3' := of_decide_eq_false hg3
    refine .yes rfl rfl rfl rfl (.move rfl rfl (.yes rfl rfl rfl rfl (.eqI rfl rfl rfl (.pickF rfl rfl rfl (.assign rfl rfl (.ops0 (.thenN (.retc (.doneR (ResV.tmp rfl ResV.nil) ?_)))))))))
    exact ⟨congrArg Ending.returned (congrArg Value.bool (Eq.symm (by first | rfl | (simp only [letB, hg1, hg2, hg3, Bool.true_or, Bool.or_true, Bool.false_or, Bool.or_false, Bool.true_and, Bool.and_true, Bool.false_and, Bool.and_false])))), rfl⟩
  ·skip
   refine .set (d := 8) (u := .bool false) rfl (congrArg Value.bool hg2) ?_
   have hg2' := of_decide_eq_false hg2
   refine .no rfl rfl rfl rfl rfl rfl rfl (.no rfl rfl rfl rfl rfl rfl rfl (.yes rfl rfl rfl rfl (.pickF rfl rfl rfl (.pickF rfl rfl rfl (.move rfl rfl (.yes rfl rfl rfl rfl (.move rfl rfl (.yes rfl rfl rfl rfl (.eqI rfl rfl rfl (.pickF rfl rfl rfl (.assign rfl rfl (.ops0 (.thenN (.retc (.doneR (ResV.tmp rfl ResV.nil) ?_)))))))))))))))
   exact ⟨congrArg Ending.returned (congrArg Value.bool (Eq.symm (by first | rfl | (simp only [letB, hg1, hg2, Bool.true_or, Bool.or_true, Bool.false_or, Bool.or_false, Bool.true_and, Bool.and_true, Bool.false_and, Bool.and_false])))), rfl⟩
theorem nameC_any (u : UInt8) (w : World)  :
  Calls Try.prog 50 ([.int .u8 (u.toNat : Int)] : List Value).toArray w fun e w' => e = .returned (.bool (nameB u)) ∧ w = w' := by
 have hB := Below.refl w.heap.size w
 refine At.enter (N := 9) Try.func50 rfl rfl (by simp) [(0, .int .u8 (u.toNat : Int))] (by simp) ?_
 refine .seq (.region (.assign rfl rfl (.ops0 (.thenN (.seq (.region (.move rfl rfl ?_)))))))
 refine At.call en28 rfl rfl (letter_any u _) (fun e w' hR => ?_)
 obtain ⟨rfl, rfl⟩ := hR
 refine ⟨_, rfl, ?_⟩
 refine .move rfl rfl ?_
 refine At.cases ((letB u)) (fun hg1 => ?_) (fun hg1 => ?_)
 ·skip
  refine .set (d := 5) (u := .bool true) rfl (congrArg Value.bool hg1) (.no rfl rfl rfl rfl rfl rfl rfl (.no rfl rfl rfl rfl rfl rfl rfl (.pickT rfl rfl rfl (.assign rfl rfl (.ops0 (.thenN (.retc (.doneR (ResV.tmp rfl ResV.nil) ?_))))))))
  exact ⟨congrArg Ending.returned (congrArg Value.bool (Eq.symm (by first | rfl | (simp only [nameB, hg1, Bool.true_or, Bool.or_true, Bool.false_or, Bool.or_false, Bool.true_and, Bool.and_true, Bool.false_and, Bool.and_false])))), rfl⟩
 ·skip
  refine .set (d := 5) (u := .bool false) rfl (congrArg Value.bool hg1) (.yes rfl rfl rfl rfl (.move rfl rfl (.yes rfl rfl rfl rfl ?_)))
  refine At.call en26 rfl rfl (digit_any u _) (fun e w' hR => ?_)
  obtain ⟨rfl, rfl⟩ := hR
  refine ⟨_, rfl, ?_⟩
  refine .pickF rfl rfl rfl (.assign rfl rfl (.ops0 (.thenN (.retc (.doneR (ResV.tmp rfl ResV.nil) ?_)))))
  exact ⟨congrArg Ending.returned (congrArg Value.bool (Eq.symm (by first | rfl | (simp only [nameB, hg1, Bool.true_or, Bool.or_true, Bool.false_or, Bool.or_false, Bool.true_and, Bool.and_true, Bool.false_and, Bool.and_false])))), rfl⟩
theorem strings_IndexByte_u (l : List UInt8) (u : UInt8) (w : World) : Calls Try.prog 57 ([.string (bs l), .int .u8 (u.toNat : Int)] : List Value).toArray w fun e w' => e = .returned (.int .i64 (Lib.indexByte l u)) ∧ w = w' := by
 have h := Try.strings_IndexByte (bs l) (u.toNat : Int) w
 rw [bs_list, Int.toNat_natCast, Nat.toUInt8_eq, UInt8.ofNat_toNat] at h
 exact h.mono fun e w' hq => ⟨hq.1, hq.2.symm⟩
theorem blankC_any (u : UInt8) (w : World)  :
  Calls Try.prog 56 ([.int .u8 (u.toNat : Int)] : List Value).toArray w fun e w' => e = .returned (.bool (blkB u)) ∧ w = w' := by
 have hB := Below.refl w.heap.size w
 refine At.enter (N := 6) Try.func56 rfl rfl (by simp) [(0, .int .u8 (u.toNat : Int))] (by simp) ?_
 refine .seq (.region (.assign rfl rfl (.ops0 (.thenN (.seq (.region (.move rfl rfl ?_)))))))
 refine At.call en57 rfl rfl (strings_IndexByte_u _ u _) (fun e w' hR => ?_)
 obtain ⟨rfl, rfl⟩ := hR
 refine ⟨_, rfl, ?_⟩
 refine .geq rfl rfl rfl (.assign rfl rfl (.ops0 (.thenN (.retc (.doneR (ResV.tmp rfl ResV.nil) ?_)))))
 exact ⟨congrArg Ending.returned (congrArg Value.bool (Eq.symm (by first | rfl | (simp only [blkB, Bool.true_or, Bool.or_true, Bool.false_or, Bool.or_false, Bool.true_and, Bool.and_true, Bool.false_and, Bool.and_false])))), rfl⟩
theorem lineC_any (u : UInt8) (w : World)  :
  Calls Try.prog 58 ([.int .u8 (u.toNat : Int)] : List Value).toArray w fun e w' => e = .returned (.bool (lineB u)) ∧ w = w' := by
 have hB := Below.refl w.heap.size w
 refine At.enter (N := 5) Try.func58 rfl rfl (by simp) [(0, .int .u8 (u.toNat : Int))] (by simp) ?_
 refine .seq (.region (.assign rfl rfl (.ops0 (.thenN (.seq (.region (.move rfl rfl (.neI rfl rfl rfl (.assign rfl rfl (.ops0 (.thenN (.retc (.doneR (ResV.tmp rfl ResV.nil) ?_)))))))))))))
 exact ⟨congrArg Ending.returned (congrArg Value.bool (Eq.symm (by first | rfl | (simp only [lineB, Bool.true_or, Bool.or_true, Bool.false_or, Bool.or_false, Bool.true_and, Bool.and_true, Bool.false_and, Bool.and_false])))), rfl⟩
theorem anyC_any (u : UInt8) (w : World)  :
  Calls Try.prog 30 ([.int .u8 (u.toNat : Int)] : List Value).toArray w fun e w' => e = .returned (.bool true) ∧ w = w' := by
 have hB := Below.refl w.heap.size w
 refine At.enter (N := 3) Try.func30 rfl rfl (by simp) [(0, .int .u8 (u.toNat : Int))] (by simp) ?_
 refine .seq (.region (.assign rfl rfl (.ops0 (.thenN (.seq (.region (.assign rfl rfl (.ops0 (.thenN (.retc (.doneR (ResV.tmp rfl ResV.nil) ?_)))))))))))
 exact ⟨rfl, rfl⟩
theorem while_any (l : List UInt8) (c : FuncId) (cap : List Value) (p : UInt8 → Bool) (w : World) (hl : l.length ≤ 9223372036854775807) (hent : entB Try.prog c = true) (hclo : ∀ (u : UInt8) (w1 : World), Calls Try.prog c ([.int .u8 (u.toNat : Int)] ++ cap : List Value).toArray w1 fun e w2 => e = .returned (.bool (p u)) ∧ w1 = w2) :
  Calls Try.prog 48 ([.string (bs l), .func (.func c) #[] cap.toArray] : List Value).toArray w fun e w' => e = .returned (.int .i64 (whileN p l : Int)) ∧ w = w' := by
 have hB := Below.refl w.heap.size w
 refine At.enter (N := 20) Try.func48 rfl rfl (by simp) [(0, .string (bs l)), (1, .func (.func c) #[] cap.toArray)] (by simp) ?_
 refine .seq (.region (.assign rfl rfl (.ops0 (.thenN (.seq (.region (.assign rfl rfl (.ops0 (.thenN (.seq (.block ?_)))))))))))
 refine At.loop (Nat) (fun k => [(0, .string (bs l)), (1, .func (.func c) #[] cap.toArray), (5, .int .i64 (k : Int))]) (fun k w1 => w = w1 ∧ (k ≤ l.length) ∧ (∀ i x, i < k → l[i]? = some x → p x = true)) (fun k => l.length - k) (0 : Nat) (Sub.cons rfl (Sub.cons rfl (Sub.cons rfl Sub.nil))) ⟨rfl, (Nat.zero_le _), (fun i x hi => absurd hi (Nat.not_lt_zero i))⟩ (fun k w1 hI => ?_)
 obtain ⟨rfl, hkb, hn⟩ := hI
 show At _ _ [(0, .string (bs l)), (1, .func (.func c) #[] cap.toArray), (5, .int .i64 (k : Int))] _ _
 refine .seq (.seq (.region (.move rfl rfl (.move rfl rfl (.lenB (l := l) rfl st9 rfl (.lss rfl rfl rfl (.move rfl rfl ?_)))))))
 refine At.cases (decide ((k : Int) < (l.length : Int))) (fun hg1 => ?_) (fun hg1 => ?_)
 ·skip
  refine .set (d := 10) (u := .bool true) rfl (congrArg Value.bool hg1) ?_
  have hg1' := of_decide_eq_true hg1
  refine .yes rfl rfl rfl rfl (.move rfl rfl (.yes rfl rfl rfl rfl (.move rfl rfl (.yes rfl rfl rfl rfl (.move rfl rfl (.yes rfl rfl rfl rfl ?_))))))
  obtain ⟨u1, hu1⟩ := some_of_lt (l := l) (i := k) (by omega)
  refine .indexB (l := l) (i := k) rfl rfl hu1 st9 rfl (.yes rfl rfl rfl rfl ?_)
  refine At.callV rfl hent rfl rfl (hclo u1 _) (fun e w' hR => ?_)
  obtain ⟨rfl, rfl⟩ := hR
  refine ⟨_, rfl, ?_⟩
  refine .pickT rfl rfl rfl (.ops0 (.thenN ?_))
  refine At.cond (b := (p u1)) rfl (fun hc1 => ?_) (fun hc1 => ?_)
  ·skip
   refine .skip (.thenN (.block (.region (.move rfl rfl (.addI rfl rfl rfl (by omega) (.assign rfl rfl (.ops0 (.inN (.thenN ?_)))))))))
   exact fun act_ hact_ => ⟨(k + 1), hact_.sub (Sub.cons rfl (Sub.cons rfl (Sub.cons rfl Sub.nil))), ⟨rfl, (by omega), (next_yes hn hu1 hc1)⟩, by first | omega | (dsimp only; omega)⟩
  ·skip
   refine .exit (.thenE (.thenE (.inE (.thenN (.seq (.region (.move rfl rfl (.assign rfl rfl (.ops0 (.thenN (.retc (.doneR (ResV.tmp rfl ResV.nil) ?_))))))))))))
   exact ⟨congrArg Ending.returned (congrArg (fun n : Nat => Value.int .i64 (n : Int)) (whileN_eq hkb hn (at_stop hu1 hc1)).symm), rfl⟩
 ·skip
  refine .set (d := 10) (u := .bool false) rfl (congrArg Value.bool hg1) ?_
  have hg1' := of_decide_eq_false hg1
  refine .no rfl rfl rfl rfl rfl rfl rfl (.no rfl rfl rfl rfl rfl rfl rfl (.no rfl rfl rfl rfl rfl rfl rfl (.no rfl rfl rfl rfl rfl rfl rfl (.no rfl rfl rfl rfl rfl rfl rfl (.pickF rfl rfl rfl (.ops0 (.thenN (.condF rfl (.exit (.thenE (.thenE (.inE (.thenN (.seq (.region (.move rfl rfl (.assign rfl rfl (.ops0 (.thenN (.retc (.doneR (ResV.tmp rfl ResV.nil) ?_)))))))))))))))))))))
  exact ⟨congrArg Ending.returned (congrArg (fun n : Nat => Value.int .i64 (n : Int)) (whileN_eq hkb hn (at_end hg1')).symm), rfl⟩
theorem blank_any (l : List UInt8) (w : World) (hl : l.length ≤ 9223372036854775807) :
  Calls Try.prog 32 ([.string (bs l)] : List Value).toArray w fun e w' => e = .returned (.int .i64 (blank1 l : Int)) ∧ w = w' := by
 have hB := Below.refl w.heap.size w
 refine At.enter (N := 20) Try.func32 rfl rfl (by simp) [(0, .string (bs l))] (by simp) ?_
 refine .seq (.region (.assign rfl rfl (.ops0 (.thenN (.seq (.region (.move rfl rfl ?_)))))))
 refine At.call en48 rfl rfl (while_any l 56 [] blkB _ (by omega) en56 (fun u w1 => blankC_any u w1)) (fun e w' hR => ?_)
 obtain ⟨rfl, rfl⟩ := hR
 refine ⟨_, rfl, ?_⟩
 refine .assign rfl rfl (.ops0 (.thenN (.seq (.seq (.region (.move rfl rfl (.eqI rfl rfl rfl (.move rfl rfl ?_))))))))
 refine At.cases (decide ((whileN blkB l : Int) = 0)) (fun hg1 => ?_) (fun hg1 => ?_)
 ·skip
  refine .set (d := 8) (u := .bool true) rfl (congrArg Value.bool hg1) ?_
  have hg1' := of_decide_eq_true hg1
  refine .yes rfl rfl rfl rfl (.move rfl rfl (.yes rfl rfl rfl rfl (.neB' (a := l) (b := ([] : List UInt8)) rfl rfl rfl (.pickT rfl rfl rfl (.move rfl rfl ?_)))))
  refine At.cases ((!decide (l = ([] : List UInt8)))) (fun hg2 => ?_) (fun hg2 => ?_)
  ·skip
   refine .set (d := 12) (u := .bool true) rfl (congrArg Value.bool hg2) ?_
   have hg2' := hg2; simp only [Bool.not_eq_true', Bool.not_eq_false', decide_eq_true_eq, decide_eq_false_iff_not] at hg2'
   refine .yes rfl rfl rfl rfl (.move rfl rfl (.yes rfl rfl rfl rfl ?_))
   obtain ⟨u1, hu1⟩ := some_of_lt (l := l) (i := 0) (by first | omega | exact List.length_pos_iff.2 (by assumption))
   refine .indexB (l := l) (i := 0) rfl rfl hu1 st9 rfl (.yes rfl rfl rfl rfl (.eqI rfl rfl rfl (.pickT rfl rfl rfl (.ops0 (.thenN ?_)))))
   refine At.cond (b := decide ((u1.toNat : Int) = 35)) rfl (fun hc1 => ?_) (fun hc1 => ?_)
   ·skip
    have hc1' := of_decide_eq_true hc1
    refine .region (.move rfl rfl ?_)
    refine At.call en48 rfl rfl (while_any l 58 [] lineB _ (by omega) en58 (fun u w1 => lineC_any u w1)) (fun e w' hR => ?_)
    obtain ⟨rfl, rfl⟩ := hR
    refine ⟨_, rfl, ?_⟩
    refine .assign rfl rfl (.ops0 (.thenN (.seq (.region (.move rfl rfl (.assign rfl rfl (.ops0 (.thenN (.retc (.doneR (ResV.tmp rfl ResV.nil) ?_))))))))))
    exact ⟨congrArg Ending.returned (congrArg (fun n : Nat => Value.int .i64 (n : Int)) (Eq.symm (by unfold blank1; cases l with | nil => simp_all | cons a r => simp_all))), rfl⟩
   ·skip
    have hc1' := of_decide_eq_false hc1
    refine .skip (.thenN (.seq (.region (.move rfl rfl (.assign rfl rfl (.ops0 (.thenN (.retc (.doneR (ResV.tmp rfl ResV.nil) ?_)))))))))
    exact ⟨congrArg Ending.returned (congrArg (fun n : Nat => Value.int .i64 (n : Int)) (Eq.symm (by unfold blank1; cases l with | nil => simp_all | cons a r => simp_all))), rfl⟩
  ·skip
   refine .set (d := 12) (u := .bool false) rfl (congrArg Value.bool hg2) ?_
   have hg2' := hg2; simp only [Bool.not_eq_true', Bool.not_eq_false', decide_eq_true_eq, decide_eq_false_iff_not] at hg2'
   refine .no rfl rfl rfl rfl rfl rfl rfl (.no rfl rfl rfl rfl rfl rfl rfl (.no rfl rfl rfl rfl rfl rfl rfl (.pickF rfl rfl rfl (.ops0 (.thenN (.condF rfl (.skip (.thenN (.seq (.region (.move rfl rfl (.assign rfl rfl (.ops0 (.thenN (.retc (.doneR (ResV.tmp rfl ResV.nil) ?_))))))))))))))))
   exact ⟨congrArg Ending.returned (congrArg (fun n : Nat => Value.int .i64 (n : Int)) (Eq.symm (by unfold blank1; cases l with | nil => simp_all | cons a r => simp_all))), rfl⟩
 ·skip
  refine .set (d := 8) (u := .bool false) rfl (congrArg Value.bool hg1) ?_
  have hg1' := of_decide_eq_false hg1
  refine .no rfl rfl rfl rfl rfl rfl rfl (.no rfl rfl rfl rfl rfl rfl rfl (.pickF rfl rfl rfl (.move rfl rfl (.no rfl rfl rfl rfl rfl rfl rfl (.no rfl rfl rfl rfl rfl rfl rfl (.no rfl rfl rfl rfl rfl rfl rfl (.pickF rfl rfl rfl (.ops0 (.thenN (.condF rfl (.skip (.thenN (.seq (.region (.move rfl rfl (.assign rfl rfl (.ops0 (.thenN (.retc (.doneR (ResV.tmp rfl ResV.nil) ?_))))))))))))))))))))
  exact ⟨congrArg Ending.returned (congrArg (fun n : Nat => Value.int .i64 (n : Int)) (Eq.symm (by unfold blank1; cases l with | nil => simp_all | cons a r => simp_all))), rfl⟩
theorem number_any (l : List UInt8) (w : World) (hl : l.length ≤ 1099511627776) :
  Calls Try.prog 27 ([.string (bs l)] : List Value).toArray w fun e w' => e = .returned (numV l) ∧ Below w.heap.size w w' := by
 have hwn := whileN_le digB l
 have htl : (l.take (whileN digB l)).length ≤ l.length := by simp; omega
 have hB := Below.refl w.heap.size w
 refine At.enter (N := 41) Try.func27 rfl rfl (by simp) [(0, .string (bs l))] (by simp) ?_
 refine .seq (.region ?_)
 refine At.alloc ze47 rfl (fun b1 w1 F1 => ?_)
 have gb1 := F1.ge hB
 have hb1 : w1.heap[b1]? = some (.cells #[.int .i64 0, .string (⟨#[]⟩ : ByteArray), .int .i64 0, .int .i64 0] 47) := F1.new
 replace hB := F1.below' hB
 refine .assign rfl rfl (.assign rfl rfl (.ops0 (.thenN (.seq (.region (.move rfl rfl ?_))))))
 refine At.call en48 rfl rfl (while_any l 26 [] digB _ (by omega) en26 (fun u w1 => digit_any u w1)) (fun e w' hR => ?_)
 obtain ⟨rfl, rfl⟩ := hR
 refine ⟨_, rfl, ?_⟩
 refine .assign rfl rfl (.ops0 (.thenN (.seq (.region (.assign rfl rfl (.ops0 (.thenN (.seq (.seq (.region (.move rfl rfl (.move rfl rfl ?_))))))))))))
 have hle1 : (whileN digB l) ≤ l.length := by first | omega | (simp only [List.length_take]; omega)
 refine .takeB (l := l) (h := (whileN digB l)) rfl rfl st9 hle1 rfl ?_
 refine At.toBytes (l := (l.take (whileN digB l))) rfl st9 el22 ik5 (by simp only [List.length_take]; omega) rfl (fun b2 cap1 w2 hgbb1 hbl1 hby1 => ?_)
 replace hb1 := Below.old hbl1 hb1
 replace hB := Below.andThen hB hbl1
 refine .lenSl rfl (BytesAt.ok hby1) el22 rfl (.move rfl rfl (.ops0 (.thenN (.block ?_))))
 refine At.loop (Nat × Nat) (fun (k, v) => [(0, .string (bs l)), (2, .pointer (some ⟨b1, 0, none⟩)), (5, .int .i64 (whileN digB l : Int)), (6, .int .i64 (v : Int)), (14, (.slice (some ⟨b2, 0, none⟩) (l.take (whileN digB l)).length cap1)), (15, .int .i64 ((l.take (whileN digB l)).length : Int)), (16, .int .i64 (k : Int))]) (fun (k, v) w3 => Below w.heap.size w w3 ∧ w3.heap[b1]? = some (.cells #[.int .i64 0, .string (⟨#[]⟩ : ByteArray), .int .i64 0, .int .i64 0] 47) ∧ BytesAt w3 (.slice (some ⟨b2, 0, none⟩) (l.take (whileN digB l)).length cap1) (l.take (whileN digB l)) ∧ (k ≤ (l.take (whileN digB l)).length) ∧ (v ≤ 9223372036854775807) ∧ (numGo v ((l.take (whileN digB l)).drop k) = numGo 0 (l.take (whileN digB l)))) (fun (k, v) => (l.take (whileN digB l)).length - k) (0, 0) (Sub.cons rfl (Sub.cons rfl (Sub.cons rfl (Sub.cons rfl (Sub.cons rfl (Sub.cons rfl (Sub.cons rfl Sub.nil))))))) ⟨hB, hb1, hby1, (Nat.zero_le _), (Nat.zero_le _), (rfl)⟩ (fun gh w3 hI => ?_)
 obtain ⟨k, v⟩ := gh
 clear hB hb1 hby1
 obtain ⟨hB, hb1, hby1, hkb, hvb, hn⟩ := hI
 show At _ _ [(0, .string (bs l)), (2, .pointer (some ⟨b1, 0, none⟩)), (5, .int .i64 (whileN digB l : Int)), (6, .int .i64 (v : Int)), (14, (.slice (some ⟨b2, 0, none⟩) (l.take (whileN digB l)).length cap1)), (15, .int .i64 ((l.take (whileN digB l)).length : Int)), (16, .int .i64 (k : Int))] _ _
 refine .seq (.region (.lss rfl rfl rfl (.ops0 (.thenN (.seq ?_)))))
 refine At.cond (b := decide ((k : Int) < ((l.take (whileN digB l)).length : Int))) rfl (fun hc1 => ?_) (fun hc1 => ?_)
 ·skip
  have hc1' := of_decide_eq_true hc1
  refine .skip (.thenN (.seq (.block (.seq ?_))))
  obtain ⟨u1, hu1⟩ := some_of_lt (l := (l.take (whileN digB l))) (i := k) (by omega)
  have hdr := dig_range (digs_dig hu1)
  refine .region (.indexAddr (i := k) rfl rfl (BytesAt.ok hby1) (lt_of_some hu1) el22 sz5 rfl (.load rfl (Ld.cell ag5 (cell_keep (BytesAt.get hby1 hu1) (Below.refl _ _))) rfl (.assign rfl rfl (.ops0 (.thenN (.seq (.seq (.region (.move rfl rfl (.move rfl rfl (.sub' rfl rfl rfl (.convI rfl ik5 ik3 rfl (.set (d := 23) (u := .int .i64 (((u1.toNat - 48 : Nat)) : Int)) rfl (congrArg (Value.int .i64) (sub48 (digs_dig hu1))) (.subI rfl rfl rfl (by first | omega | (simp only [List.length_take]; omega)) (.quoI rfl rfl (by first | omega | (simp only [List.length_take]; omega)) rfl (.set (d := 25) (u := .int .i64 ((((9223372036854775807 - (u1.toNat - 48)) / 10 : Nat)) : Int)) rfl (congrArg (Value.int .i64) (quo10 (by omega))) (.gtr rfl rfl rfl (.ops0 (.thenN ?_)))))))))))))))))))
  refine At.cond (b := decide ((((9223372036854775807 - (u1.toNat - 48)) / 10 : Nat) : Int) < (v : Int))) rfl (fun hc2 => ?_) (fun hc2 => ?_)
  ·skip
   have hc2' := of_decide_eq_true hc2
   refine .seq (.region (.build (C := #[.int .i64 0, .string (⟨#[]⟩ : ByteArray), .int .i64 0, .int .i64 0]) sd47 ze47 rfl (Bld.nil _) rfl ?_))
   refine At.storeAll rfl rfl hb1 sz47 rfl (by simp [Value.oneCell']) (fun w4 S1 => ?_)
   clear hby1
   replace hb1 : w4.heap[b1]? = some (.cells #[.int .i64 0, .string (⟨#[]⟩ : ByteArray), .int .i64 0, .int .i64 0] 47) := S1.new
   replace hB := S1.below' hB gb1
   refine .assign rfl rfl (.assign rfl rfl (.ops0 (.thenN (.retc (.thenR (.inR (.thenR (.thenR (.inR (.thenR (.doneR (ResV.cell rfl (Ld.own (C := #[.int .i64 0, .string (⟨#[]⟩ : ByteArray), .int .i64 0, .int .i64 0]) ag47 sz47 hb1) (ResV.tmp rfl (ResV.tmp rfl ResV.nil))) ?_)))))))))))
   exact ⟨congrArg Ending.returned (Eq.symm (numV_none (by show numGo 0 (l.take (whileN digB l)) = none; rw [← hn, numGo_step hu1, if_pos (by omega)]))), hB⟩
  ·skip
   have hc2' := of_decide_eq_false hc2
   refine .skip (.thenN (.region (.move rfl rfl (.mul rfl rfl rfl (.set (d := 29) (u := .int .i64 (((10 * v : Nat)) : Int)) rfl (congrArg (Value.int .i64) ((wrap64_id _ (by omega)).trans (by omega))) (.move rfl rfl (.sub' rfl rfl rfl (.convI rfl ik5 ik3 rfl (.set (d := 32) (u := .int .i64 (((u1.toNat - 48 : Nat)) : Int)) rfl (congrArg (Value.int .i64) (sub48 (digs_dig hu1))) (.addI rfl rfl rfl (by first | omega | (simp only [List.length_take]; omega)) (.assign rfl rfl (.ops0 (.inN (.thenN (.region (.addI rfl rfl rfl (by first | omega | (simp only [List.length_take]; omega)) (.move rfl rfl (.ops0 (.thenN ?_)))))))))))))))))))
   exact fun act_ hact_ => ⟨((k + 1), (10 * v + (u1.toNat - 48))), hact_.sub (Sub.cons rfl (Sub.cons rfl (Sub.cons rfl (Sub.cons (congrArg (fun x => some (Value.int .i64 x)) (by omega)) (Sub.cons rfl (Sub.cons rfl (Sub.cons rfl Sub.nil))))))), ⟨hB, hb1, hby1, (by omega), (by omega), (by rw [← hn, numGo_step hu1, if_neg (by omega)])⟩, by first | omega | (dsimp only; omega)⟩
 ·skip
  have hc1' := of_decide_eq_false hc1
  refine .exit (.thenE (.thenE (.inE (.thenN (.seq (.region (.move rfl rfl (.move rfl rfl (.takeB (l := l) (h := (whileN digB l)) rfl rfl st9 hle1 rfl (.move rfl rfl (.build (C := #[.int .i64 1, .string (bs (l.take (whileN digB l))), .int .i64 (v : Int), .int .i64 0]) sd47 ze47 rfl (Bld.cons fo47_0 rfl (by first | decide | exact Nat.le_of_ble_eq_true rfl) (Bld.cons fo47_1 rfl (by first | decide | exact Nat.le_of_ble_eq_true rfl) (Bld.cons fo47_2 rfl (by first | decide | exact Nat.le_of_ble_eq_true rfl) (Bld.nil _)))) rfl (.move rfl rfl ?_))))))))))))
  refine At.storeAll rfl rfl hb1 sz47 rfl (by simp [Value.oneCell']) (fun w5 S2 => ?_)
  clear hby1
  replace hb1 : w5.heap[b1]? = some (.cells #[.int .i64 1, .string (bs (l.take (whileN digB l))), .int .i64 (v : Int), .int .i64 0] 47) := S2.new
  replace hB := S2.below' hB gb1
  refine .assign rfl rfl (.assign rfl rfl (.ops0 (.thenN (.retc (.doneR (ResV.cell rfl (Ld.own (C := #[.int .i64 1, .string (bs (l.take (whileN digB l))), .int .i64 (v : Int), .int .i64 0]) ag47 sz47 hb1) (ResV.tmp rfl (ResV.tmp rfl ResV.nil))) ?_)))))
  exact ⟨congrArg Ending.returned (Eq.symm (numV_some (v := v) (by show numGo 0 (l.take (whileN digB l)) = some v; rw [← hn, List.drop_eq_nil_of_le (by omega)]; rfl))), hB⟩
theorem strings_Contains_u (a b : List UInt8) (m : Int) (w : World) (ha : a.length < 4294967281) (hm : w.cell? ⟨0, 0, none⟩ = some (.int .i64 m)) : Calls Try.prog 51 ([.string (bs a), .string (bs b)] : List Value).toArray w fun e w' => e = .returned (.bool (Lib.contains a b)) ∧ w = w' := by
 have h := Try.strings_Contains (bs a) (bs b) m w (by rw [bs_size]; exact ha) hm
 rw [bs_list, bs_list] at h
 exact h.mono fun e w' hq => ⟨hq.1, hq.2.symm⟩
theorem name_any (l : List UInt8) (m : Int) (w : World) (hl : l.length ≤ 1099511627776) (h0 : l ≠ []) (hm : w.cell? ⟨0, 0, none⟩ = some (.int .i64 m)) :
  Calls Try.prog 29 ([.string (bs l)] : List Value).toArray w fun e w' => e = .returned (nameV l) ∧ Below w.heap.size w w' := by
 have hwn := whileN_le nameB l
 have hl0 := List.length_pos_iff.2 h0
 have hB := Below.refl w.heap.size w
 refine At.enter (N := 45) Try.func29 rfl rfl (by simp) [(0, .string (bs l))] (by simp) ?_
 refine .seq (.region ?_)
 refine At.alloc ze47 rfl (fun b1 w1 F1 => ?_)
 have gb1 := F1.ge hB
 have hb1 : w1.heap[b1]? = some (.cells #[.int .i64 0, .string (⟨#[]⟩ : ByteArray), .int .i64 0, .int .i64 0] 47) := F1.new
 replace hB := F1.below' hB
 refine .assign rfl rfl (.assign rfl rfl (.ops0 (.thenN (.seq (.region (.move rfl rfl ?_))))))
 refine At.call en48 rfl rfl (while_any l 50 [] nameB _ (by omega) en50 (fun u w1 => nameC_any u w1)) (fun e w' hR => ?_)
 obtain ⟨rfl, rfl⟩ := hR
 refine ⟨_, rfl, ?_⟩
 refine .assign rfl rfl (.ops0 (.thenN (.seq (.region (.move rfl rfl (.move rfl rfl ?_))))))
 have hle1 : (whileN nameB l) ≤ l.length := by omega
 refine .takeB (l := l) (h := (whileN nameB l)) rfl rfl st9 hle1 rfl (.build (C := #[.int .i64 2, .string (bs (l.take (whileN nameB l))), .int .i64 0, .int .i64 0]) sd47 ze47 rfl (Bld.cons fo47_0 rfl (by first | decide | exact Nat.le_of_ble_eq_true rfl) (Bld.cons fo47_1 rfl (by first | decide | exact Nat.le_of_ble_eq_true rfl) (Bld.nil _))) rfl ?_)
 refine At.alloc ze47 rfl (fun b2 w2 F2 => ?_)
 have n_b1_b2 : b1 ≠ b2 := Nat.ne_of_lt (F2.lt hb1)
 have gb2 := F2.ge hB
 replace hb1 := F2.old hb1
 have hb2 : w2.heap[b2]? = some (.cells #[.int .i64 0, .string (⟨#[]⟩ : ByteArray), .int .i64 0, .int .i64 0] 47) := F2.new
 replace hB := F2.below' hB
 refine At.storeAll rfl rfl hb2 sz47 rfl (by simp [Value.oneCell']) (fun w3 S1 => ?_)
 replace hb1 := S1.other hb1 n_b1_b2
 replace hb2 : w3.heap[b2]? = some (.cells #[.int .i64 2, .string (bs (l.take (whileN nameB l))), .int .i64 0, .int .i64 0] 47) := S1.new
 replace hB := S1.below' hB gb2
 refine .ops0 (.thenN (.seq (.block (.seq (.region (.move rfl rfl (.gtr rfl rfl rfl (.assign rfl rfl (.ops0 (.thenN ?_))))))))))
 refine At.cond (b := decide (60 < (whileN nameB l : Int))) rfl (fun hc1 => ?_) (fun hc1 => ?_)
 ·skip
  have hc1' := of_decide_eq_true hc1
  refine .seq (.region (.load rfl (Ld.own (C := #[.int .i64 2, .string (bs (l.take (whileN nameB l))), .int .i64 0, .int .i64 0]) ag47 sz47 hb2) rfl ?_))
  refine At.storeAll rfl rfl hb1 sz47 rfl (by simp [Value.oneCell']) (fun w4 S2 => ?_)
  replace hb2 := S2.other hb2 n_b1_b2.symm
  replace hb1 : w4.heap[b1]? = some (.cells #[.int .i64 2, .string (bs (l.take (whileN nameB l))), .int .i64 0, .int .i64 0] 47) := S2.new
  replace hB := S2.below' hB gb1
  refine .assign rfl rfl (.assign rfl rfl (.ops0 (.thenN (.retc (.inR (.thenR (.doneR (ResV.cell rfl (Ld.own (C := #[.int .i64 2, .string (bs (l.take (whileN nameB l))), .int .i64 0, .int .i64 0]) ag47 sz47 hb1) (ResV.tmp rfl (ResV.tmp rfl ResV.nil))) ?_)))))))
  exact ⟨congrArg Ending.returned (Eq.symm (by simp only [nameV, kwB, hc1, if_true, if_false, Bool.false_eq_true, Bool.false_and, Bool.true_and]; rfl)), hB⟩
 ·skip
  have hc1' := of_decide_eq_false hc1
  refine .seq (.region (.move rfl rfl ?_))
  obtain ⟨u1, hu1⟩ := some_of_lt (l := l) (i := 0) (by omega)
  refine .indexB (l := l) (i := 0) rfl rfl hu1 st9 rfl ?_
  refine At.call en49 rfl rfl (large_any u1 _) (fun e w' hR => ?_)
  obtain ⟨rfl, rfl⟩ := hR
  refine ⟨_, rfl, ?_⟩
  refine .assign rfl rfl (.ops0 (.thenN ?_))
  refine At.cond (b := (largB u1)) rfl (fun hc2 => ?_) (fun hc2 => ?_)
  ·skip
   refine .region (.fieldAddr rfl fo47_0 rfl ?_)
   refine At.store1 rfl rfl hb2 sz3 (by simp) rfl (fun w5 S3 => ?_)
   replace hb1 := S3.other hb1 n_b1_b2
   replace hb2 : w5.heap[b2]? = some (.cells #[.int .i64 3, .string (bs (l.take (whileN nameB l))), .int .i64 0, .int .i64 0] 47) := S3.new
   replace hB := S3.below' hB gb2
   refine .ops0 (.inN (.thenN (.seq (.region (.load rfl (Ld.own (C := #[.int .i64 3, .string (bs (l.take (whileN nameB l))), .int .i64 0, .int .i64 0]) ag47 sz47 hb2) rfl (.move rfl rfl ?_))))))
   refine At.storeAll rfl rfl hb1 sz47 rfl (by simp [Value.oneCell']) (fun w6 S4 => ?_)
   replace hb2 := S4.other hb2 n_b1_b2.symm
   replace hb1 : w6.heap[b1]? = some (.cells #[.int .i64 3, .string (bs (l.take (whileN nameB l))), .int .i64 0, .int .i64 0] 47) := S4.new
   replace hB := S4.below' hB gb1
   refine .assign rfl rfl (.assign rfl rfl (.ops0 (.thenN (.retc (.doneR (ResV.cell rfl (Ld.own (C := #[.int .i64 3, .string (bs (l.take (whileN nameB l))), .int .i64 0, .int .i64 0]) ag47 sz47 hb1) (ResV.tmp rfl (ResV.tmp rfl ResV.nil))) ?_)))))
   exact ⟨congrArg Ending.returned (Eq.symm (by simp only [nameV, kwB, getD_of hu1, hc1, hc2, if_true, if_false, Bool.false_eq_true, Bool.false_and, Bool.true_and]; rfl)), hB⟩
  ·skip
   refine .seq (.region (.fieldAddr rfl fo47_1 rfl (.load rfl (Ld.ownCell ag9 hb2 rfl) rfl (.catB (a := ([32] : List UInt8)) (b := (l.take (whileN nameB l))) rfl rfl rfl (by simp only [List.length_append, List.length_take, List.length_cons, List.length_nil]; omega) (.catB (a := (([32] : List UInt8) ++ (l.take (whileN nameB l)))) (b := ([32] : List UInt8)) rfl rfl rfl (by simp only [List.length_append, List.length_take, List.length_cons, List.length_nil]; omega) ?_)))))
   have hmc := cell_keep hm hB
   refine At.call en51 rfl rfl (strings_Contains_u keysL ((([32] : List UInt8) ++ (l.take (whileN nameB l))) ++ ([32] : List UInt8)) m _ (by decide) hmc) (fun e w' hR => ?_)
   obtain ⟨rfl, rfl⟩ := hR
   refine ⟨_, rfl, ?_⟩
   refine .assign rfl rfl (.ops0 (.thenN ?_))
   refine At.cond (b := (Lib.contains keysL ((([32] : List UInt8) ++ (l.take (whileN nameB l))) ++ ([32] : List UInt8)))) rfl (fun hc3 => ?_) (fun hc3 => ?_)
   ·skip
    refine .region (.fieldAddr rfl fo47_0 rfl ?_)
    refine At.store1 rfl rfl hb2 sz3 (by simp) rfl (fun w8 S5 => ?_)
    replace hb1 := S5.other hb1 n_b1_b2
    replace hb2 : w8.heap[b2]? = some (.cells #[.int .i64 4, .string (bs (l.take (whileN nameB l))), .int .i64 0, .int .i64 0] 47) := S5.new
    replace hB := S5.below' hB gb2
    refine .ops0 (.inN (.thenN (.seq (.region (.load rfl (Ld.own (C := #[.int .i64 4, .string (bs (l.take (whileN nameB l))), .int .i64 0, .int .i64 0]) ag47 sz47 hb2) rfl (.move rfl rfl ?_))))))
    refine At.storeAll rfl rfl hb1 sz47 rfl (by simp [Value.oneCell']) (fun w9 S6 => ?_)
    replace hb2 := S6.other hb2 n_b1_b2.symm
    replace hb1 : w9.heap[b1]? = some (.cells #[.int .i64 4, .string (bs (l.take (whileN nameB l))), .int .i64 0, .int .i64 0] 47) := S6.new
    replace hB := S6.below' hB gb1
    refine .assign rfl rfl (.assign rfl rfl (.ops0 (.thenN (.retc (.doneR (ResV.cell rfl (Ld.own (C := #[.int .i64 4, .string (bs (l.take (whileN nameB l))), .int .i64 0, .int .i64 0]) ag47 sz47 hb1) (ResV.tmp rfl (ResV.tmp rfl ResV.nil))) ?_)))))
    exact ⟨congrArg Ending.returned (Eq.symm (by simp only [nameV, kwB, getD_of hu1, hc1, hc2, hc3, if_true, if_false, Bool.false_eq_true, Bool.false_and, Bool.true_and]; rfl)), hB⟩
   ·skip
    refine .seq (.region (.move rfl rfl (.move rfl rfl (.lenB (l := l) rfl st9 rfl (.lss rfl rfl rfl (.move rfl rfl ?_))))))
    refine At.cases (decide ((whileN nameB l : Int) < (l.length : Int))) (fun hg1 => ?_) (fun hg1 => ?_)
    ·skip
     refine .set (d := 34) (u := .bool true) rfl (congrArg Value.bool hg1) ?_
     have hg1' := of_decide_eq_true hg1
     refine .yes rfl rfl rfl rfl (.move rfl rfl (.yes rfl rfl rfl rfl (.move rfl rfl (.yes rfl rfl rfl rfl ?_))))
     obtain ⟨u2, hu2⟩ := some_of_lt (l := l) (i := (whileN nameB l)) (by omega)
     refine .indexB (l := l) (i := (whileN nameB l)) rfl rfl hu2 st9 rfl (.yes rfl rfl rfl rfl (.eqI rfl rfl rfl (.pickT rfl rfl rfl (.assign rfl rfl (.ops0 (.thenN ?_))))))
     refine At.cond (b := decide ((u2.toNat : Int) = 33)) rfl (fun hc4 => ?_) (fun hc4 => ?_)
     ·skip
      have hc4' := of_decide_eq_true hc4
      refine .seq (.region (.fieldAddr rfl fo47_0 rfl ?_))
      refine At.store1 rfl rfl hb2 sz3 (by simp) rfl (fun w10 S7 => ?_)
      replace hb1 := S7.other hb1 n_b1_b2
      replace hb2 : w10.heap[b2]? = some (.cells #[.int .i64 6, .string (bs (l.take (whileN nameB l))), .int .i64 0, .int .i64 0] 47) := S7.new
      replace hB := S7.below' hB gb2
      refine .ops0 (.thenN (.region (.move rfl rfl (.addI rfl rfl rfl (by omega) (.assign rfl rfl (.ops0 (.inN (.thenN (.seq (.region (.load rfl (Ld.own (C := #[.int .i64 6, .string (bs (l.take (whileN nameB l))), .int .i64 0, .int .i64 0]) ag47 sz47 hb2) rfl (.move rfl rfl ?_))))))))))))
      refine At.storeAll rfl rfl hb1 sz47 rfl (by simp [Value.oneCell']) (fun w11 S8 => ?_)
      replace hb2 := S8.other hb2 n_b1_b2.symm
      replace hb1 : w11.heap[b1]? = some (.cells #[.int .i64 6, .string (bs (l.take (whileN nameB l))), .int .i64 0, .int .i64 0] 47) := S8.new
      replace hB := S8.below' hB gb1
      refine .assign rfl rfl (.assign rfl rfl (.ops0 (.thenN (.retc (.doneR (ResV.cell rfl (Ld.own (C := #[.int .i64 6, .string (bs (l.take (whileN nameB l))), .int .i64 0, .int .i64 0]) ag47 sz47 hb1) (ResV.tmp rfl (ResV.tmp rfl ResV.nil))) ?_)))))
      exact ⟨congrArg Ending.returned (Eq.symm (by simp only [nameV, kwB, getD_of hu1, getD_of hu2, hc1, hc2, hc3, hg1, hc4, if_true, if_false, Bool.false_eq_true, Bool.false_and, Bool.true_and]; rfl)), hB⟩
     ·skip
      have hc4' := of_decide_eq_false hc4
      refine .skip (.inN (.thenN (.seq (.region (.load rfl (Ld.own (C := #[.int .i64 2, .string (bs (l.take (whileN nameB l))), .int .i64 0, .int .i64 0]) ag47 sz47 hb2) rfl (.move rfl rfl ?_))))))
      refine At.storeAll rfl rfl hb1 sz47 rfl (by simp [Value.oneCell']) (fun w12 S9 => ?_)
      replace hb2 := S9.other hb2 n_b1_b2.symm
      replace hb1 : w12.heap[b1]? = some (.cells #[.int .i64 2, .string (bs (l.take (whileN nameB l))), .int .i64 0, .int .i64 0] 47) := S9.new
      replace hB := S9.below' hB gb1
      refine .assign rfl rfl (.assign rfl rfl (.ops0 (.thenN (.retc (.doneR (ResV.cell rfl (Ld.own (C := #[.int .i64 2, .string (bs (l.take (whileN nameB l))), .int .i64 0, .int .i64 0]) ag47 sz47 hb1) (ResV.tmp rfl (ResV.tmp rfl ResV.nil))) ?_)))))
      exact ⟨congrArg Ending.returned (Eq.symm (by simp only [nameV, kwB, getD_of hu1, getD_of hu2, hc1, hc2, hc3, hg1, hc4, if_true, if_false, Bool.false_eq_true, Bool.false_and, Bool.true_and]; rfl)), hB⟩
    ·skip
     refine .set (d := 34) (u := .bool false) rfl (congrArg Value.bool hg1) ?_
     have hg1' := of_decide_eq_false hg1
     refine .no rfl rfl rfl rfl rfl rfl rfl (.no rfl rfl rfl rfl rfl rfl rfl (.no rfl rfl rfl rfl rfl rfl rfl (.no rfl rfl rfl rfl rfl rfl rfl (.pickF rfl rfl rfl (.assign rfl rfl (.ops0 (.thenN (.condF rfl (.skip (.inN (.thenN (.seq (.region (.load rfl (Ld.own (C := #[.int .i64 2, .string (bs (l.take (whileN nameB l))), .int .i64 0, .int .i64 0]) ag47 sz47 hb2) rfl (.move rfl rfl ?_)))))))))))))))
     refine At.storeAll rfl rfl hb1 sz47 rfl (by simp [Value.oneCell']) (fun w13 S10 => ?_)
     replace hb2 := S10.other hb2 n_b1_b2.symm
     replace hb1 : w13.heap[b1]? = some (.cells #[.int .i64 2, .string (bs (l.take (whileN nameB l))), .int .i64 0, .int .i64 0] 47) := S10.new
     replace hB := S10.below' hB gb1
     refine .assign rfl rfl (.assign rfl rfl (.ops0 (.thenN (.retc (.doneR (ResV.cell rfl (Ld.own (C := #[.int .i64 2, .string (bs (l.take (whileN nameB l))), .int .i64 0, .int .i64 0]) ag47 sz47 hb1) (ResV.tmp rfl (ResV.tmp rfl ResV.nil))) ?_)))))
     exact ⟨congrArg Ending.returned (Eq.symm (by simp only [nameV, kwB, getD_of hu1, hc1, hc2, hc3, hg1, if_true, if_false, Bool.false_eq_true, Bool.false_and, Bool.true_and]; rfl)), hB⟩
end Go.Proofs.Ytkjmjnddanhapaa
