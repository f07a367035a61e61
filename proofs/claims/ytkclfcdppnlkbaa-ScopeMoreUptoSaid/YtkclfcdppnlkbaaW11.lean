/-
  The walk of ScopeMore: what the call does, for every argument that lies so in memory. Written by a program of ours.
-/
import Derived.Test.YtkclfcdppnlkbaaW6
import Derived.Test.YtkclfcdppnlkbaaS9
set_option linter.unusedVariables false
set_option linter.unusedSimpArgs false
namespace Go.Proofs.Ytkclfcdppnlkbaa
open Go.RowKit
theorem by43 : bytesB Try.prog 43 = some 40 := by kernel_rfl
theorem by52 : bytesB Try.prog 52 = some 40 := by kernel_rfl
theorem sd31 : sizedB Try.prog 31 = true := by kernel_rfl
theorem sz22 : sizeB Try.prog 22 = some 1 := by kernel_rfl
theorem sz23 : sizeB Try.prog 23 = some 1 := by kernel_rfl
set_option maxHeartbeats 4000000 in
theorem scopeMore_any (p : Pr) (name op con : ByteArray) (c : Nat) (w : World) (hp : PrOk w p) (hs : PrSmall p c) (hc : c ≤ 1048576) :
    Calls Try.prog 8 ([.agg p.cs, .string name, .string op, .string con] : List Value).toArray w fun e w' => e = .returned (.bool true) ∧ Below w.heap.size w w' := by
  have hz := hs.sz (by omega)
  have hlen1 := hs.len
  have hB := Below.refl w.heap.size w
  refine At.enter (N := 167) Try.func8 rfl rfl (by simp) [(0, .agg p.cs), (1, .string name), (2, .string op), (3, .string con)] (by simp) ?_
  refine At.seq ?_
  refine At.region ?_
  refine At.box rfl rfl (fun b1 w1 F1 => ?_)
  have gb1 := F1.ge hB
  have hb1 : w1.heap[b1]? = some (.cells p.cs 35) := F1.new
  replace hB := F1.below' hB
  refine At.assign rfl rfl ?_
  refine At.ops0 ?_
  refine At.thenN ?_
  refine At.seq ?_
  refine At.region ?_
  refine At.call en10 rfl rfl (shown_any _) (fun e w2 hR => ?_)
  obtain ⟨rfl, hbl1⟩ := hR
  refine ⟨_, rfl, ?_⟩
  replace hb1 := Below.old hbl1 hb1
  replace hB := Below.andThen hB hbl1
  refine At.assign rfl rfl ?_
  refine At.ops0 ?_
  refine At.thenN ?_
  refine At.seq ?_
  refine At.seq ?_
  refine At.region ?_
  refine At.load rfl (Ld.own ag35 (sz35.trans (congrArg some (hp).size.symm)) hb1) rfl ?_
  refine At.call en11 rfl rfl (large_any p _ ((hp).keep hB)) (fun e w3 hR => ?_)
  obtain ⟨rfl, hbl2⟩ := hR
  refine ⟨_, rfl, ?_⟩
  replace hb1 := Below.old hbl2 hb1
  replace hB := Below.andThen hB hbl2
  refine At.ops0 ?_
  refine At.thenN ?_
  refine At.cond (b := (largeB p)) rfl (fun hc1 => ?_) (fun hc1 => ?_)
  · skip
    refine At.seq ?_
    refine At.region ?_
    refine At.move rfl rfl ?_
    refine At.assign rfl rfl ?_
    refine At.ops0 ?_
    refine At.thenN ?_
    refine At.retc ?_
    refine At.thenR ?_
    refine At.doneR (ResV.tmp rfl ResV.nil) ?_
    exact ⟨rfl, hB⟩
  · skip
    refine At.skip ?_
    refine At.thenN ?_
    refine At.seq ?_
    refine At.region ?_
    refine At.load rfl (Ld.own ag35 (sz35.trans (congrArg some (hp).size.symm)) hb1) rfl ?_
    refine At.call en12 rfl rfl (check_any p _ ((hp).keep hB) hz (Nat.le_trans (show wtT (Pr.body p) ≤ 1048576 from Nat.le_trans hs.body hc) (by decide))) (fun e w4 hR => ?_)
    obtain ⟨rfl, hbl3⟩ := hR
    refine ⟨_, rfl, ?_⟩
    replace hb1 := Below.old hbl3 hb1
    replace hB := Below.andThen hB hbl3
    refine At.move rfl rfl ?_
    refine At.extract rfl rfl rfl ?_
    refine At.extract rfl rfl rfl ?_
    refine At.assign rfl rfl ?_
    refine At.assign rfl rfl ?_
    refine At.ops0 ?_
    refine At.thenN ?_
    refine At.seq ?_
    refine At.seq ?_
    refine At.region ?_
    refine At.move rfl rfl ?_
    refine At.neI rfl rfl rfl ?_
    refine At.ops0 ?_
    refine At.thenN ?_
    refine At.cond (b := (!decide ((checkP p).2 = 0))) rfl (fun hc2 => ?_) (fun hc2 => ?_)
    · skip
      have hc2' := hc2; simp only [Bool.not_eq_true', Bool.not_eq_false', decide_eq_true_eq, decide_eq_false_iff_not] at hc2'
      refine At.seq ?_
      refine At.region ?_
      refine At.move rfl rfl ?_
      refine At.assign rfl rfl ?_
      refine At.ops0 ?_
      refine At.thenN ?_
      refine At.retc ?_
      refine At.thenR ?_
      refine At.doneR (ResV.tmp rfl ResV.nil) ?_
      exact ⟨rfl, hB⟩
    · skip
      have hc2' := hc2; simp only [Bool.not_eq_true', Bool.not_eq_false', decide_eq_true_eq, decide_eq_false_iff_not] at hc2'
      refine At.skip ?_
      refine At.thenN ?_
      refine At.seq ?_
      have hok : (checkP p).2 = 0 := by simpa using hc2
      have hlen := large_len hs hc hc1
      refine At.region ?_
      refine At.build (C := #[.int .i64 3, .string (⟨#[]⟩ : ByteArray), .int .i64 0, (.slice none 0 0), (.slice none 0 0), .int .i64 0]) sd31 ze31 rfl (Bld.cons fo31_0 rfl (by first | decide | exact Nat.le_of_ble_eq_true rfl) (Bld.nil _)) rfl ?_
      refine At.alloc ze31 rfl (fun b2 w5 F2 => ?_)
      have n_b1_b2 : b1 ≠ b2 := Nat.ne_of_lt (F2.lt hb1)
      have gb2 := F2.ge hB
      replace hb1 := F2.old hb1
      have hb2 : w5.heap[b2]? = some (.cells #[.int .i64 0, .string (⟨#[]⟩ : ByteArray), .int .i64 0, (.slice none 0 0), (.slice none 0 0), .int .i64 0] 31) := F2.new
      replace hB := F2.below' hB
      refine At.storeAll rfl rfl hb2 sz31 rfl (by simp [Value.oneCell', ((SlOk.nil)).one, ((SlOk.nil)).one]) (fun w6 S1 => ?_)
      replace hb1 := S1.other hb1 n_b1_b2
      replace hb2 : w6.heap[b2]? = some (.cells #[.int .i64 3, .string (⟨#[]⟩ : ByteArray), .int .i64 0, (.slice none 0 0), (.slice none 0 0), .int .i64 0] 31) := S1.new
      replace hB := S1.below' hB gb2
      refine At.ops0 ?_
      refine At.thenN ?_
      refine At.seq ?_
      refine At.region ?_
      refine At.load rfl (Ld.own ag35 (sz35.trans (congrArg some (hp).size.symm)) hb1) rfl ?_
      refine At.move rfl rfl ?_
      refine At.call en17 rfl rfl (refHandled_any p name _ ((hp).keep hB) (hp).hl.1) (fun e w7 hR => ?_)
      obtain ⟨rfl, hbl4⟩ := hR
      refine ⟨_, rfl, ?_⟩
      replace hb1 := Below.old hbl4 hb1
      replace hb2 := Below.old hbl4 hb2
      replace hB := Below.andThen hB hbl4
      refine At.move rfl rfl ?_
      refine At.extract rfl rfl rfl ?_
      refine At.extract rfl rfl rfl ?_
      refine At.alloc ze43 rfl (fun b3 w8 F3 => ?_)
      have n_b1_b3 : b1 ≠ b3 := Nat.ne_of_lt (F3.lt hb1)
      have n_b2_b3 : b2 ≠ b3 := Nat.ne_of_lt (F3.lt hb2)
      have gb3 := F3.ge hB
      replace hb1 := F3.old hb1
      replace hb2 := F3.old hb2
      have hb3 : w8.heap[b3]? = some (.cells #[.string (⟨#[]⟩ : ByteArray), (.slice none 0 0)] 43) := F3.new
      replace hB := F3.below' hB
      refine At.storeAll rfl rfl hb3 (sz43.trans (congrArg some ((hdE_ok hp name)).size.symm)) ((hdE_ok hp name)).size.symm ((hdE_ok hp name)).one (fun w9 S2 => ?_)
      replace hb1 := S2.other hb1 n_b1_b3
      replace hb2 := S2.other hb2 n_b2_b3
      replace hb3 : w9.heap[b3]? = some (.cells (hdE (findHd p.effs name)).cs 43) := S2.new
      replace hB := S2.below' hB gb3
      refine At.assign rfl rfl ?_
      refine At.ops0 ?_
      refine At.thenN ?_
      refine At.seq ?_
      refine At.region ?_
      refine At.load rfl (Ld.own ag35 (sz35.trans (congrArg some (hp).size.symm)) hb1) rfl ?_
      refine At.move rfl rfl ?_
      refine At.call en15 rfl rfl (refEffect_any p op _ ((hp).keep hB) (hp).hl (hp).ho (hp).hc) (fun e w10 hR => ?_)
      obtain ⟨rfl, hbl5⟩ := hR
      refine ⟨_, rfl, ?_⟩
      replace hb1 := Below.old hbl5 hb1
      replace hb2 := Below.old hbl5 hb2
      replace hb3 := Below.old hbl5 hb3
      replace hB := Below.andThen hB hbl5
      refine At.move rfl rfl ?_
      refine At.extract rfl rfl rfl ?_
      refine At.extract rfl rfl rfl ?_
      refine At.extract rfl rfl rfl ?_
      refine At.alloc ze43 rfl (fun b4 w11 F4 => ?_)
      have n_b1_b4 : b1 ≠ b4 := Nat.ne_of_lt (F4.lt hb1)
      have n_b2_b4 : b2 ≠ b4 := Nat.ne_of_lt (F4.lt hb2)
      have n_b3_b4 : b3 ≠ b4 := Nat.ne_of_lt (F4.lt hb3)
      have gb4 := F4.ge hB
      replace hb1 := F4.old hb1
      replace hb2 := F4.old hb2
      replace hb3 := F4.old hb3
      have hb4 : w11.heap[b4]? = some (.cells #[.string (⟨#[]⟩ : ByteArray), (.slice none 0 0)] 43) := F4.new
      replace hB := F4.below' hB
      refine At.alloc ze45 rfl (fun b5 w12 F5 => ?_)
      have n_b1_b5 : b1 ≠ b5 := Nat.ne_of_lt (F5.lt hb1)
      have n_b2_b5 : b2 ≠ b5 := Nat.ne_of_lt (F5.lt hb2)
      have n_b3_b5 : b3 ≠ b5 := Nat.ne_of_lt (F5.lt hb3)
      have n_b4_b5 : b4 ≠ b5 := Nat.ne_of_lt (F5.lt hb4)
      have gb5 := F5.ge hB
      replace hb1 := F5.old hb1
      replace hb2 := F5.old hb2
      replace hb3 := F5.old hb3
      replace hb4 := F5.old hb4
      have hb5 : w12.heap[b5]? = some (.cells #[.string (⟨#[]⟩ : ByteArray), .int .i64 0, .string (⟨#[]⟩ : ByteArray), .int .i64 0, (.slice none 0 0), (.slice none 0 0), .int .i64 0, .int .i64 0, .string (⟨#[]⟩ : ByteArray), .int .i64 0, (.slice none 0 0), (.slice none 0 0), .int .i64 0] 45) := F5.new
      replace hB := F5.below' hB
      refine At.storeAll rfl rfl hb4 (sz43.trans (congrArg some ((effE_ok hp op)).size.symm)) ((effE_ok hp op)).size.symm ((effE_ok hp op)).one (fun w13 S3 => ?_)
      replace hb1 := S3.other hb1 n_b1_b4
      replace hb2 := S3.other hb2 n_b2_b4
      replace hb3 := S3.other hb3 n_b3_b4
      replace hb5 := S3.other hb5 n_b4_b5.symm
      replace hb4 : w13.heap[b4]? = some (.cells (effE (findEff p.effs op)).cs 43) := S3.new
      replace hB := S3.below' hB gb4
      refine At.storeAll rfl rfl hb5 (sz45.trans (congrArg some ((opE_ok hp op)).size.symm)) ((opE_ok hp op)).size.symm ((opE_ok hp op)).one (fun w14 S4 => ?_)
      replace hb1 := S4.other hb1 n_b1_b5
      replace hb2 := S4.other hb2 n_b2_b5
      replace hb3 := S4.other hb3 n_b3_b5
      replace hb4 := S4.other hb4 n_b4_b5
      replace hb5 : w14.heap[b5]? = some (.cells (opE (findEff p.effs op)).cs 45) := S4.new
      replace hB := S4.below' hB gb5
      refine At.assign rfl rfl ?_
      refine At.ops0 ?_
      refine At.thenN ?_
      refine At.seq ?_
      refine At.region ?_
      refine At.load rfl (Ld.own ag35 (sz35.trans (congrArg some (hp).size.symm)) hb1) rfl ?_
      refine At.move rfl rfl ?_
      refine At.call en19 rfl rfl (refCon_any p con _ ((hp).keep hB) (hp).hl (hp).ho (hp).hc) (fun e w15 hR => ?_)
      obtain ⟨rfl, hbl6⟩ := hR
      refine ⟨_, rfl, ?_⟩
      replace hb1 := Below.old hbl6 hb1
      replace hb2 := Below.old hbl6 hb2
      replace hb3 := Below.old hbl6 hb3
      replace hb4 := Below.old hbl6 hb4
      replace hb5 := Below.old hbl6 hb5
      replace hB := Below.andThen hB hbl6
      refine At.move rfl rfl ?_
      refine At.extract rfl rfl rfl ?_
      refine At.extract rfl rfl rfl ?_
      refine At.extract rfl rfl rfl ?_
      refine At.alloc ze52 rfl (fun b6 w16 F6 => ?_)
      have n_b1_b6 : b1 ≠ b6 := Nat.ne_of_lt (F6.lt hb1)
      have n_b2_b6 : b2 ≠ b6 := Nat.ne_of_lt (F6.lt hb2)
      have n_b3_b6 : b3 ≠ b6 := Nat.ne_of_lt (F6.lt hb3)
      have n_b4_b6 : b4 ≠ b6 := Nat.ne_of_lt (F6.lt hb4)
      have n_b5_b6 : b5 ≠ b6 := Nat.ne_of_lt (F6.lt hb5)
      have gb6 := F6.ge hB
      replace hb1 := F6.old hb1
      replace hb2 := F6.old hb2
      replace hb3 := F6.old hb3
      replace hb4 := F6.old hb4
      replace hb5 := F6.old hb5
      have hb6 : w16.heap[b6]? = some (.cells #[.string (⟨#[]⟩ : ByteArray), (.slice none 0 0)] 52) := F6.new
      replace hB := F6.below' hB
      refine At.alloc ze54 rfl (fun b7 w17 F7 => ?_)
      have n_b1_b7 : b1 ≠ b7 := Nat.ne_of_lt (F7.lt hb1)
      have n_b2_b7 : b2 ≠ b7 := Nat.ne_of_lt (F7.lt hb2)
      have n_b3_b7 : b3 ≠ b7 := Nat.ne_of_lt (F7.lt hb3)
      have n_b4_b7 : b4 ≠ b7 := Nat.ne_of_lt (F7.lt hb4)
      have n_b5_b7 : b5 ≠ b7 := Nat.ne_of_lt (F7.lt hb5)
      have n_b6_b7 : b6 ≠ b7 := Nat.ne_of_lt (F7.lt hb6)
      have gb7 := F7.ge hB
      replace hb1 := F7.old hb1
      replace hb2 := F7.old hb2
      replace hb3 := F7.old hb3
      replace hb4 := F7.old hb4
      replace hb5 := F7.old hb5
      replace hb6 := F7.old hb6
      have hb7 : w17.heap[b7]? = some (.cells #[.string (⟨#[]⟩ : ByteArray), (.slice none 0 0)] 54) := F7.new
      replace hB := F7.below' hB
      refine At.storeAll rfl rfl hb6 (sz52.trans (congrArg some ((datE_ok hp con)).size.symm)) ((datE_ok hp con)).size.symm ((datE_ok hp con)).one (fun w18 S5 => ?_)
      replace hb1 := S5.other hb1 n_b1_b6
      replace hb2 := S5.other hb2 n_b2_b6
      replace hb3 := S5.other hb3 n_b3_b6
      replace hb4 := S5.other hb4 n_b4_b6
      replace hb5 := S5.other hb5 n_b5_b6
      replace hb7 := S5.other hb7 n_b6_b7.symm
      replace hb6 : w18.heap[b6]? = some (.cells (datE (findCon p.dats con)).cs 52) := S5.new
      replace hB := S5.below' hB gb6
      refine At.storeAll rfl rfl hb7 (sz54.trans (congrArg some ((cnE_ok hp con)).size.symm)) ((cnE_ok hp con)).size.symm ((cnE_ok hp con)).one (fun w19 S6 => ?_)
      replace hb1 := S6.other hb1 n_b1_b7
      replace hb2 := S6.other hb2 n_b2_b7
      replace hb3 := S6.other hb3 n_b3_b7
      replace hb4 := S6.other hb4 n_b4_b7
      replace hb5 := S6.other hb5 n_b5_b7
      replace hb6 := S6.other hb6 n_b6_b7
      replace hb7 : w19.heap[b7]? = some (.cells (cnE (findCon p.dats con)).cs 54) := S6.new
      replace hB := S6.below' hB gb7
      refine At.assign rfl rfl ?_
      refine At.ops0 ?_
      refine At.thenN ?_
      refine At.seq ?_
      refine At.region ?_
      refine At.assign rfl rfl ?_
      refine At.ops0 ?_
      refine At.thenN ?_
      refine At.seq ?_
      refine At.seq ?_
      refine At.region ?_
      refine At.assign rfl rfl ?_
      refine At.ops0 ?_
      refine At.thenN ?_
      refine At.block ?_
      refine At.loop (Nat) (fun k => [(1, .string name), (2, .string op), (3, .string con), (4, .pointer (some ⟨b1, 0, none⟩)), (9, .bool true), (12, .pointer (some ⟨b2, 0, none⟩)), (14, .bool ((findHd p.effs name).isSome)), (17, .bool ((findEff p.effs op).isSome)), (20, .bool ((findCon p.dats con).isSome)), (21, .bool ((p.dats.take k).any (datIs name))), (22, .int .i64 (k : Int))]) (fun k w20 => Below w.heap.size w w20 ∧ w20.heap[b1]? = some (.cells p.cs 35) ∧ w20.heap[b2]? = some (.cells #[.int .i64 3, .string (⟨#[]⟩ : ByteArray), .int .i64 0, (.slice none 0 0), (.slice none 0 0), .int .i64 0] 31) ∧ (k ≤ p.dats.length)) (fun k => p.dats.length - k) (0 : Nat) (Sub.cons rfl (Sub.cons rfl (Sub.cons rfl (Sub.cons rfl (Sub.cons rfl (Sub.cons rfl (Sub.cons rfl (Sub.cons rfl (Sub.cons rfl (Sub.cons rfl (Sub.cons rfl Sub.nil))))))))))) ⟨hB, hb1, hb2, (Nat.zero_le _)⟩ (fun k w20 hI => ?_)
      clear hB hb1 hb2 hb3 hb4 hb5 hb6 hb7
      obtain ⟨hB, hb1, hb2, hkb⟩ := hI
      show At _ _ [(1, .string name), (2, .string op), (3, .string con), (4, .pointer (some ⟨b1, 0, none⟩)), (9, .bool true), (12, .pointer (some ⟨b2, 0, none⟩)), (14, .bool ((findHd p.effs name).isSome)), (17, .bool ((findEff p.effs op).isSome)), (20, .bool ((findCon p.dats con).isSome)), (21, .bool ((p.dats.take k).any (datIs name))), (22, .int .i64 (k : Int))] _ _
      refine At.seq ?_
      refine At.seq ?_
      refine At.region ?_
      refine At.move rfl rfl ?_
      refine At.fieldAddr rfl fo35_1 rfl ?_
      refine At.load rfl (Ld.ownCell ag23 hb1 (hp).c1) rfl ?_
      refine At.lenSl rfl ((hp).datsAt).okL el23 rfl ?_
      refine At.lss rfl rfl rfl ?_
      refine At.ops0 ?_
      refine At.thenN ?_
      refine At.cond (b := decide ((k : Int) < (p.dats.length : Int))) rfl (fun hc3 => ?_) (fun hc3 => ?_)
      · skip
        have hc3' := of_decide_eq_true hc3
        refine At.skip ?_
        refine At.thenN ?_
        refine At.seq ?_
        refine At.block ?_
        obtain ⟨uD, huD⟩ := some_of_lt (l := p.dats) (i := k) (by omega)
        refine At.region ?_
        refine At.join [(1, .string name), (2, .string op), (3, .string con), (4, .pointer (some ⟨b1, 0, none⟩)), (9, .bool true), (12, .pointer (some ⟨b2, 0, none⟩)), (14, .bool ((findHd p.effs name).isSome)), (17, .bool ((findEff p.effs op).isSome)), (20, .bool ((findCon p.dats con).isSome)), (21, .bool (((p.dats.take k).any (datIs name)) || decide (uD.nm = name))), (22, .int .i64 (k : Int))] (fun w' => w20 = w') ?_ (fun w21 hS => ?_)
        · skip
          refine At.move rfl rfl ?_
          refine At.move rfl rfl ?_
          refine At.cases (((p.dats.take k).any (datIs name))) (fun hg1 => ?_) (fun hg1 => ?_)
          · skip
            refine At.set (d := 70) (u := .bool true) rfl (congrArg Value.bool hg1) ?_
            refine At.no rfl rfl rfl rfl rfl rfl rfl ?_
            refine At.no rfl rfl rfl rfl rfl rfl rfl ?_
            refine At.no rfl rfl rfl rfl rfl rfl rfl ?_
            refine At.no rfl rfl rfl rfl rfl rfl rfl ?_
            refine At.no rfl rfl rfl rfl rfl rfl rfl ?_
            refine At.no rfl rfl rfl rfl rfl rfl rfl ?_
            refine At.no rfl rfl rfl rfl rfl rfl rfl ?_
            refine At.no rfl rfl rfl rfl rfl rfl rfl ?_
            refine At.pickT rfl rfl rfl ?_
            refine At.assign rfl rfl ?_
            exact At.joined (Sub.cons rfl (Sub.cons rfl (Sub.cons rfl (Sub.cons rfl (Sub.cons rfl (Sub.cons rfl (Sub.cons rfl (Sub.cons rfl (Sub.cons rfl (Sub.cons (by show some (Value.bool true) = some (Value.bool (((p.dats.take k).any (datIs name)) || decide (uD.nm = name))); rw [hg1]; rfl) (Sub.cons rfl Sub.nil))))))))))) rfl
          · skip
            refine At.set (d := 70) (u := .bool false) rfl (congrArg Value.bool hg1) ?_
            refine At.yes rfl rfl rfl rfl ?_
            refine At.fieldAddr rfl fo35_1 rfl ?_
            refine At.yes rfl rfl rfl rfl ?_
            refine At.load rfl (Ld.ownCell ag23 hb1 (hp).c1) rfl ?_
            refine At.yes rfl rfl rfl rfl ?_
            refine At.move rfl rfl ?_
            refine At.yes rfl rfl rfl rfl ?_
            refine At.indexAddr (i := k) rfl rfl ((hp).datsAt).okL (lt_of_some huD) el23 sz52 rfl ?_
            refine At.yes rfl rfl rfl rfl ?_
            refine At.fieldAddr rfl fo52_0 rfl ?_
            refine At.yes rfl rfl rfl rfl ?_
            refine At.load rfl (Ld.cell ag9 (cell_keep ((((hp).datsAt).row huD).get (((hp).dat huD)).c0) hB)) rfl ?_
            refine At.yes rfl rfl rfl rfl ?_
            refine At.move rfl rfl ?_
            refine At.yes rfl rfl rfl rfl ?_
            refine At.eqS rfl rfl rfl ?_
            refine At.pickF rfl rfl rfl ?_
            refine At.assign rfl rfl ?_
            exact At.joined (Sub.cons rfl (Sub.cons rfl (Sub.cons rfl (Sub.cons rfl (Sub.cons rfl (Sub.cons rfl (Sub.cons rfl (Sub.cons rfl (Sub.cons rfl (Sub.cons (by show some (Value.bool (decide (uD.nm = name))) = some (Value.bool (((p.dats.take k).any (datIs name)) || decide (uD.nm = name))); rw [hg1]; rfl) (Sub.cons rfl Sub.nil))))))))))) rfl
        · skip
          subst hS
          refine At.inN ?_
          refine At.thenN ?_
          refine At.region ?_
          refine At.move rfl rfl ?_
          refine At.addI rfl rfl rfl (by omega) ?_
          refine At.assign rfl rfl ?_
          refine At.ops0 ?_
          refine At.thenN ?_
          exact fun a ha => ⟨(k + 1), ha.sub (Sub.cons rfl (Sub.cons rfl (Sub.cons rfl (Sub.cons rfl (Sub.cons rfl (Sub.cons rfl (Sub.cons rfl (Sub.cons rfl (Sub.cons rfl (Sub.cons (congrArg (fun x => some (Value.bool x)) (any_snoc (f := datIs name) huD).symm) (Sub.cons rfl Sub.nil))))))))))), ⟨hB, hb1, hb2, (by omega)⟩, by first | omega | (dsimp only; omega)⟩
      · skip
        have hc3' := of_decide_eq_false hc3
        refine At.exit ?_
        refine At.thenE ?_
        refine At.thenE ?_
        refine At.inE ?_
        refine At.thenN ?_
        refine At.seq ?_
        have hfull : ((p.dats.take k).any (datIs name)) = p.dats.any (datIs name) := by rw [List.take_of_length_le (by omega)]
        refine At.set (d := 21) (u := .bool (p.dats.any (datIs name))) rfl (congrArg Value.bool hfull) ?_
        refine At.region ?_
        refine At.load rfl (Ld.own ag35 (sz35.trans (congrArg some (hp).size.symm)) hb1) rfl ?_
        refine At.alloc ze35 rfl (fun b8 w22 F8 => ?_)
        have n_b1_b8 : b1 ≠ b8 := Nat.ne_of_lt (F8.lt hb1)
        have n_b2_b8 : b2 ≠ b8 := Nat.ne_of_lt (F8.lt hb2)
        have gb8 := F8.ge hB
        replace hb1 := F8.old hb1
        replace hb2 := F8.old hb2
        have hb8 : w22.heap[b8]? = some (.cells #[(.slice none 0 0), (.slice none 0 0), .int .i64 0, .int .i64 0, .string (⟨#[]⟩ : ByteArray), .string (⟨#[]⟩ : ByteArray), .int .i64 0, (.slice none 0 0), (.slice none 0 0), .int .i64 0, .string (⟨#[]⟩ : ByteArray), .int .i64 0, (.slice none 0 0), (.slice none 0 0), .int .i64 0, (.slice none 0 0), .int .i64 0, .int .i64 0, .string (⟨#[]⟩ : ByteArray), .int .i64 0, (.slice none 0 0), (.slice none 0 0), .int .i64 0] 35) := F8.new
        replace hB := F8.below' hB
        refine At.storeAll rfl rfl hb8 (sz35.trans (congrArg some (hp).size.symm)) (hp).size.symm (hp).one (fun w23 S7 => ?_)
        replace hb1 := S7.other hb1 n_b1_b8
        replace hb2 := S7.other hb2 n_b2_b8
        replace hb8 : w23.heap[b8]? = some (.cells p.cs 35) := S7.new
        replace hB := S7.below' hB gb8
        refine At.ops0 ?_
        refine At.thenN ?_
        refine At.seq ?_
        refine At.joinG (ι := Value × Eff) (fun (vq, eq_) => [(1, .string name), (2, .string op), (3, .string con), (4, .pointer (some ⟨b1, 0, none⟩)), (9, .bool true), (12, .pointer (some ⟨b2, 0, none⟩)), (14, .bool ((findHd p.effs name).isSome)), (17, .bool ((findEff p.effs op).isSome)), (20, .bool ((findCon p.dats con).isSome)), (21, .bool (p.dats.any (datIs name))), (23, .pointer (some ⟨b8, 0, none⟩))]) (fun (vq, eq_) w24 => (Below w.heap.size w w24) ∧ (w24.heap[b1]? = some (.cells p.cs 35)) ∧ (w24.heap[b2]? = some (.cells #[.int .i64 3, .string (⟨#[]⟩ : ByteArray), .int .i64 0, (.slice none 0 0), (.slice none 0 0), .int .i64 0] 31)) ∧ (w24.heap[b8]? = some (.cells (Pr.withEffs p vq (p.effs ++ [eq_])).cs 35)) ∧ (PrOk w24 (Pr.withEffs p vq (p.effs ++ [eq_]))) ∧ (eq_.nm = name) ∧ (eq_.ops = [unitOp op])) ?_ (fun gh w24 hS => ?_)
        · skip
          refine At.drawG (n := 15) mixed (by kernel_rfl) rfl (PanicOk.norm (PanicOk.then PanicOk.body)) ?_
          have hB := Below.drewB hB
          have hb1 : _ := (show w23.drew.heap[b1]? = _ from hb1)
          have hb2 : _ := (show w23.drew.heap[b2]? = _ from hb2)
          have hb8 : _ := (show w23.drew.heap[b8]? = _ from hb8)
          refine At.wpcS (i := 1) (d := 82) (.pointer (some ⟨b1, 0 + 0, none⟩)) (by kernel_rfl) rfl rfl rfl (fun Lx => ?_) ?_
          · skip
            refine At.fieldAddr rfl fo35_0 rfl ?_
            refine At.ops0 ?_
            exact fun a ha => ⟨ha, rfl⟩
          refine At.wpcS (i := 2) (d := 83) (p.ev) (by kernel_rfl) rfl rfl rfl (fun Lx => ?_) ?_
          · skip
            refine At.load rfl (Ld.ownCell ag22 hb1 (hp).c0) rfl ?_
            refine At.ops0 ?_
            exact fun a ha => ⟨ha, rfl⟩
          refine At.wpcS (i := 4) (d := 85) (.string name) (by kernel_rfl) rfl rfl rfl (fun Lx => ?_) ?_
          · skip
            refine At.move rfl rfl ?_
            refine At.ops0 ?_
            exact fun a ha => ⟨ha, rfl⟩
          refine At.wpcS (i := 5) (d := 86) (.string op) (by kernel_rfl) rfl rfl rfl (fun Lx => ?_) ?_
          · skip
            refine At.move rfl rfl ?_
            refine At.ops0 ?_
            exact fun a ha => ⟨ha, rfl⟩
          refine At.wpcS (i := 6) (d := 87) (.agg #[.int .i64 3, .string (⟨#[]⟩ : ByteArray), .int .i64 0, (.slice none 0 0), (.slice none 0 0), .int .i64 0]) (by kernel_rfl) rfl rfl rfl (fun Lx => ?_) ?_
          · skip
            refine At.load rfl (Ld.own (C := #[.int .i64 3, .string (⟨#[]⟩ : ByteArray), .int .i64 0, (.slice none 0 0), (.slice none 0 0), .int .i64 0]) ag31 sz31 hb2) rfl ?_
            refine At.ops0 ?_
            exact fun a ha => ⟨ha, rfl⟩
          refine At.wpcS (i := 7) (d := 88) (.agg #[.int .i64 3, .string (⟨#[]⟩ : ByteArray), .int .i64 0, (.slice none 0 0), (.slice none 0 0), .int .i64 0]) (by kernel_rfl) rfl rfl rfl (fun Lx => ?_) ?_
          · skip
            refine At.load rfl (Ld.own (C := #[.int .i64 3, .string (⟨#[]⟩ : ByteArray), .int .i64 0, (.slice none 0 0), (.slice none 0 0), .int .i64 0]) ag31 sz31 hb2) rfl ?_
            refine At.ops0 ?_
            exact fun a ha => ⟨ha, rfl⟩
          refine At.wpcS (i := 8) (d := 89) (.agg #[.string op, .int .i64 3, .string (⟨#[]⟩ : ByteArray), .int .i64 0, (.slice none 0 0), (.slice none 0 0), .int .i64 0, .int .i64 3, .string (⟨#[]⟩ : ByteArray), .int .i64 0, (.slice none 0 0), (.slice none 0 0), .int .i64 0]) (by kernel_rfl) rfl rfl rfl (fun Lx => ?_) ?_
          · skip
            refine At.build (C := #[.string op, .int .i64 3, .string (⟨#[]⟩ : ByteArray), .int .i64 0, (.slice none 0 0), (.slice none 0 0), .int .i64 0, .int .i64 3, .string (⟨#[]⟩ : ByteArray), .int .i64 0, (.slice none 0 0), (.slice none 0 0), .int .i64 0]) sd45 ze45 rfl (Bld.cons fo45_0 rfl (by first | decide | exact Nat.le_of_ble_eq_true rfl) (Bld.cons fo45_1 rfl (by first | decide | exact Nat.le_of_ble_eq_true rfl) (Bld.cons fo45_2 rfl (by first | decide | exact Nat.le_of_ble_eq_true rfl) (Bld.nil _)))) rfl ?_
            refine At.ops0 ?_
            exact fun a ha => ⟨ha, rfl⟩
          refine At.wpcE [0, 9] (by kernel_rfl) (by kernel_rfl) (.cons [1, 2, 4, 5, 6, 7, 8] rfl (by kernel_rfl) ?_ (.cons [1, 2, 4] rfl (by kernel_rfl) ?_ .nil))
          · skip
            refine At.buildSlice (xs := []) rfl rfl el22 sz43 ze43 (by simp) rfl (by decide) rfl (fun b9 w25 F9 => ?_)
            have n_b1_b9 : b1 ≠ b9 := Nat.ne_of_lt (F9.lt hb1)
            have n_b2_b9 : b2 ≠ b9 := Nat.ne_of_lt (F9.lt hb2)
            have n_b8_b9 : b8 ≠ b9 := Nat.ne_of_lt (F9.lt hb8)
            have gb9 := F9.ge hB
            replace hb1 := F9.old hb1
            replace hb2 := F9.old hb2
            replace hb8 := F9.old hb8
            have hb9 : w25.heap[b9]? = some (.cells #[] 43) := F9.new
            replace hB := F9.below' hB
            have hO1 : OwnR 43 2 Eff.cs w25 (.slice (some ⟨b9, 0, none⟩) 0 0) [] := OwnR.made hb9
            have ghO1 : ∀ g, Value.ownBlock (.slice (some ⟨b9, 0, none⟩) 0 0) = some g → w.heap.size ≤ g := fun g h => by cases h; exact gb9
            have qhO1_b1 : some b1 ≠ Value.ownBlock (.slice (some ⟨b9, 0, none⟩) 0 0) := fun e => n_b1_b9 (Option.some.inj e)
            have qhO1_b2 : some b2 ≠ Value.ownBlock (.slice (some ⟨b9, 0, none⟩) 0 0) := fun e => n_b2_b9 (Option.some.inj e)
            have qhO1_b8 : some b8 ≠ Value.ownBlock (.slice (some ⟨b9, 0, none⟩) 0 0) := fun e => n_b8_b9 (Option.some.inj e)
            clear hb9
            refine At.ops0 ?_
            refine At.wpcN (.cons rfl rfl rfl rfl (fun Lx => ?_) (.cons rfl rfl rfl rfl (fun Lx => ?_) (.cons rfl rfl rfl rfl (fun Lx => ?_) (.cons rfl rfl rfl rfl (fun Lx => ?_) (.cons rfl rfl rfl rfl (fun Lx => ?_) (.cons rfl rfl rfl rfl (fun Lx => ?_) (.cons rfl rfl rfl rfl (fun Lx => ?_) .nil))))))) ?_
            · skip
              refine At.fieldAddr rfl fo35_0 rfl ?_
              refine At.ops0 ?_
              exact fun a ha => ⟨ha, rfl⟩
            · skip
              refine At.load rfl (Ld.ownCell ag22 hb1 (hp).c0) rfl ?_
              refine At.ops0 ?_
              exact fun a ha => ⟨ha, rfl⟩
            · skip
              refine At.move rfl rfl ?_
              refine At.ops0 ?_
              exact fun a ha => ⟨ha, rfl⟩
            · skip
              refine At.move rfl rfl ?_
              refine At.ops0 ?_
              exact fun a ha => ⟨ha, rfl⟩
            · skip
              refine At.load rfl (Ld.own (C := #[.int .i64 3, .string (⟨#[]⟩ : ByteArray), .int .i64 0, (.slice none 0 0), (.slice none 0 0), .int .i64 0]) ag31 sz31 hb2) rfl ?_
              refine At.ops0 ?_
              exact fun a ha => ⟨ha, rfl⟩
            · skip
              refine At.load rfl (Ld.own (C := #[.int .i64 3, .string (⟨#[]⟩ : ByteArray), .int .i64 0, (.slice none 0 0), (.slice none 0 0), .int .i64 0]) ag31 sz31 hb2) rfl ?_
              refine At.ops0 ?_
              exact fun a ha => ⟨ha, rfl⟩
            · skip
              refine At.build (C := #[.string op, .int .i64 3, .string (⟨#[]⟩ : ByteArray), .int .i64 0, (.slice none 0 0), (.slice none 0 0), .int .i64 0, .int .i64 3, .string (⟨#[]⟩ : ByteArray), .int .i64 0, (.slice none 0 0), (.slice none 0 0), .int .i64 0]) sd45 ze45 rfl (Bld.cons fo45_0 rfl (by first | decide | exact Nat.le_of_ble_eq_true rfl) (Bld.cons fo45_1 rfl (by first | decide | exact Nat.le_of_ble_eq_true rfl) (Bld.cons fo45_2 rfl (by first | decide | exact Nat.le_of_ble_eq_true rfl) (Bld.nil _)))) rfl ?_
              refine At.ops0 ?_
              exact fun a ha => ⟨ha, rfl⟩
            refine At.wpcE [3, 9] (by kernel_rfl) (by kernel_rfl) (.cons [4, 5, 6, 7, 8] rfl (by kernel_rfl) ?_ (.cons [1, 2, 4] rfl (by kernel_rfl) ?_ .nil))
            · skip
              refine At.appendR (f := Eff.cs) rfl rfl el22 el22 sz43 by43 ze43 rfl hO1 (((hp).effsAt).keep hB) (by decide) (fun u hu => (((fun u hu => ((hp).effOk u hu).keep hB)) u hu).one) (by simp; omega) (by simp; omega) rfl (fun va1 w26 hO2 hA1 => ?_)
              replace hO2 : OwnR 43 2 Eff.cs w26 va1 p.effs := hO2
              replace hb1 := hA1.old hb1 (hO1.neT hb1 rfl)
              replace hb2 := hA1.old hb2 (hO1.neT hb2 rfl)
              replace hb8 := hA1.old hb8 (hO1.neT hb8 rfl)
              have ghO2 := hA1.ge hB.size ghO1
              replace hB := hA1.below hB hB.size ghO1
              refine At.ops0 ?_
              refine At.wpcN (.cons rfl rfl rfl rfl (fun Lx => ?_) (.cons rfl rfl rfl rfl (fun Lx => ?_) (.cons rfl rfl rfl rfl (fun Lx => ?_) (.cons rfl rfl rfl rfl (fun Lx => ?_) (.cons rfl rfl rfl rfl (fun Lx => ?_) .nil))))) ?_
              · skip
                refine At.move rfl rfl ?_
                refine At.ops0 ?_
                exact fun a ha => ⟨ha, rfl⟩
              · skip
                refine At.move rfl rfl ?_
                refine At.ops0 ?_
                exact fun a ha => ⟨ha, rfl⟩
              · skip
                refine At.load rfl (Ld.own (C := #[.int .i64 3, .string (⟨#[]⟩ : ByteArray), .int .i64 0, (.slice none 0 0), (.slice none 0 0), .int .i64 0]) ag31 sz31 hb2) rfl ?_
                refine At.ops0 ?_
                exact fun a ha => ⟨ha, rfl⟩
              · skip
                refine At.load rfl (Ld.own (C := #[.int .i64 3, .string (⟨#[]⟩ : ByteArray), .int .i64 0, (.slice none 0 0), (.slice none 0 0), .int .i64 0]) ag31 sz31 hb2) rfl ?_
                refine At.ops0 ?_
                exact fun a ha => ⟨ha, rfl⟩
              · skip
                refine At.build (C := #[.string op, .int .i64 3, .string (⟨#[]⟩ : ByteArray), .int .i64 0, (.slice none 0 0), (.slice none 0 0), .int .i64 0, .int .i64 3, .string (⟨#[]⟩ : ByteArray), .int .i64 0, (.slice none 0 0), (.slice none 0 0), .int .i64 0]) sd45 ze45 rfl (Bld.cons fo45_0 rfl (by first | decide | exact Nat.le_of_ble_eq_true rfl) (Bld.cons fo45_1 rfl (by first | decide | exact Nat.le_of_ble_eq_true rfl) (Bld.cons fo45_2 rfl (by first | decide | exact Nat.le_of_ble_eq_true rfl) (Bld.nil _)))) rfl ?_
                refine At.ops0 ?_
                exact fun a ha => ⟨ha, rfl⟩
              refine At.wpcE [9] (by kernel_rfl) (by kernel_rfl) (.cons [4] rfl (by kernel_rfl) ?_ .nil)
              refine At.buildSlice (xs := [.tmp 89]) rfl rfl el41 sz45 ze45 (by intro v hv; simp only [List.mem_cons, List.not_mem_nil, or_false] at hv; rcases hv with rfl <;> first | rfl | simp [Value.cells, ((unitOp_ok op)).size]) rfl (by decide) rfl (fun b10 w27 F10 => ?_)
              have n_b1_b10 : b1 ≠ b10 := Nat.ne_of_lt (F10.lt hb1)
              have n_b2_b10 : b2 ≠ b10 := Nat.ne_of_lt (F10.lt hb2)
              have n_b8_b10 : b8 ≠ b10 := Nat.ne_of_lt (F10.lt hb8)
              have gb10 := F10.ge hB
              replace hb1 := F10.old hb1
              replace hb2 := F10.old hb2
              replace hb8 := F10.old hb8
              replace hO2 := hO2.fresh F10
              have hb10 : w27.heap[b10]? = some (.cells (([(unitOp op)].map Op.cs).flatMap (·.toList)).toArray 45) := F10.new
              replace hB := F10.below' hB
              refine At.ops0 ?_
              refine At.wpcN (.cons rfl rfl rfl rfl (fun Lx => ?_) .nil) ?_
              · skip
                refine At.move rfl rfl ?_
                refine At.ops0 ?_
                exact fun a ha => ⟨ha, rfl⟩
              refine At.wpcS (i := 10) (d := 91) (.agg #[.string name, (.slice (some ⟨b10, 0, none⟩) 1 1)]) (by kernel_rfl) rfl rfl rfl (fun Lx => ?_) ?_
              · skip
                refine At.build (C := #[.string name, (.slice (some ⟨b10, 0, none⟩) 1 1)]) sd43 ze43 rfl (Bld.cons fo43_0 rfl (by first | decide | exact Nat.le_of_ble_eq_true rfl) (Bld.cons fo43_1 rfl (by first | decide | exact Nat.le_of_ble_eq_true rfl) (Bld.nil _))) rfl ?_
                refine At.ops0 ?_
                exact fun a ha => ⟨ha, rfl⟩
              refine At.wpcE [11] (by kernel_rfl) (by kernel_rfl) (.cons [] rfl (by kernel_rfl) ?_ .nil)
              refine At.buildSlice (xs := [.tmp 91]) rfl rfl el22 sz43 ze43 (by intro v hv; simp only [List.mem_cons, List.not_mem_nil, or_false] at hv; rcases hv with rfl <;> first | rfl | simp [Value.cells, ((ownEff_ok (rows_own (f := Op.cs) (m := 1) hb10 (fun u hu => ((mem1 (Q := fun u => OpOk u) (unitOp_ok op)) u hu).size) rfl (by decide)) (mem1 (Q := fun u => OpOk u) (unitOp_ok op)))).size]) rfl (by decide) rfl (fun b11 w28 F11 => ?_)
              have q_hO2_b11 : some b11 ≠ Value.ownBlock va1 := Own.neFresh hO2 F11
              have n_b1_b11 : b1 ≠ b11 := Nat.ne_of_lt (F11.lt hb1)
              have n_b2_b11 : b2 ≠ b11 := Nat.ne_of_lt (F11.lt hb2)
              have n_b8_b11 : b8 ≠ b11 := Nat.ne_of_lt (F11.lt hb8)
              have n_b10_b11 : b10 ≠ b11 := Nat.ne_of_lt (F11.lt hb10)
              have gb11 := F11.ge hB
              replace hb1 := F11.old hb1
              replace hb2 := F11.old hb2
              replace hb8 := F11.old hb8
              replace hb10 := F11.old hb10
              replace hO2 := hO2.fresh F11
              have hb11 : w28.heap[b11]? = some (.cells (([(ownEff name (.slice (some ⟨b10, 0, none⟩) 1 1) [(unitOp op)])].map Eff.cs).flatMap (·.toList)).toArray 43) := F11.new
              replace hB := F11.below' hB
              refine At.ops0 ?_
              refine At.wpcN .nil ?_
              refine At.wpcE [12] (by kernel_rfl) (by kernel_rfl) (.cons [] rfl (by kernel_rfl) ?_ .nil)
              refine At.appendR (f := Eff.cs) rfl rfl el22 el22 sz43 by43 ze43 rfl hO2 (rows_own (f := Eff.cs) (m := 1) hb11 (fun u hu => ((mem1 (Q := fun u => EffOk w28 u) (((ownEff_ok (rows_own (f := Op.cs) (m := 1) hb10 (fun u hu => ((mem1 (Q := fun u => OpOk u) (unitOp_ok op)) u hu).size) rfl (by decide)) (mem1 (Q := fun u => OpOk u) (unitOp_ok op)))).keep (Below.refl _ _))) u hu).size) rfl (by decide)) (by decide) (fun u hu => (((mem1 (Q := fun u => EffOk w28 u) (((ownEff_ok (rows_own (f := Op.cs) (m := 1) hb10 (fun u hu => ((mem1 (Q := fun u => OpOk u) (unitOp_ok op)) u hu).size) rfl (by decide)) (mem1 (Q := fun u => OpOk u) (unitOp_ok op)))).keep (Below.refl _ _)))) u hu).one) (by simp; omega) (by simp; omega) rfl (fun va2 w29 hO3 hA2 => ?_)
              replace hO3 : OwnR 43 2 Eff.cs w29 va2 (p.effs ++ [(ownEff name (.slice (some ⟨b10, 0, none⟩) 1 1) [(unitOp op)])]) := hO3
              replace hb1 := hA2.old hb1 (hO2.neT hb1 rfl)
              replace hb2 := hA2.old hb2 (hO2.neT hb2 rfl)
              replace hb8 := hA2.old hb8 (hO2.neT hb8 rfl)
              replace hb10 := hA2.old hb10 (hO2.neT hb10 rfl)
              clear hb11
              have ghO3 := hA2.ge hB.size ghO2
              replace hB := hA2.below hB hB.size ghO2
              refine At.ops0 ?_
              refine At.wpcN .nil ?_
              refine At.wpcS (i := 13) (d := 94) (.pointer (some ⟨b8, 0 + 0, none⟩)) (by kernel_rfl) rfl rfl rfl (fun Lx => ?_) ?_
              · skip
                refine At.fieldAddr rfl fo35_0 rfl ?_
                refine At.ops0 ?_
                exact fun a ha => ⟨ha, rfl⟩
              refine At.wpcE [14] (by kernel_rfl) (by kernel_rfl) (.cons [] rfl (by kernel_rfl) ?_ .nil)
              refine At.store1 rfl rfl hb8 sz22 (by rw [(hp).size]; decide) (hO3).one (fun w30 S8 => ?_)
              replace hb1 := S8.other hb1 n_b1_b8
              replace hb2 := S8.other hb2 n_b2_b8
              replace hb10 := S8.other hb10 n_b8_b10.symm
              replace hO3 := hO3.set S8 (hO3.neT hb8 rfl)
              replace hb8 : w30.heap[b8]? = some (.cells (Pr.withEffs p va2 (p.effs ++ [(ownEff name (.slice (some ⟨b10, 0, none⟩) 1 1) [(unitOp op)])])).cs 35) := S8.new
              replace hB := S8.below' hB gb8
              refine At.ops0 ?_
              refine At.wpcN .nil ?_
              refine At.wpcZ ?_
              exact At.joinedG (va2, (ownEff name (.slice (some ⟨b10, 0, none⟩) 1 1) [(unitOp op)])) (Sub.cons rfl (Sub.cons rfl (Sub.cons rfl (Sub.cons rfl (Sub.cons rfl (Sub.cons rfl (Sub.cons rfl (Sub.cons rfl (Sub.cons rfl (Sub.cons rfl (Sub.cons rfl Sub.nil))))))))))) ⟨hB, hb1, hb2, hb8, (((PrOk.withEffs ((hp).keep hB) (((OwnR.rows hO3 (fun u hu => (((all_app (Q := fun u => EffOk w30 u) (fun u hu => ((hp).effOk u hu).keep hB) (mem1 (Q := fun u => EffOk w30 u) (((ownEff_ok (rows_own (f := Op.cs) (m := 1) hb10 (fun u hu => ((mem1 (Q := fun u => OpOk u) (unitOp_ok op)) u hu).size) rfl (by decide)) (mem1 (Q := fun u => OpOk u) (unitOp_ok op)))).keep (Below.refl _ _))))) u hu).size))).keep (Below.refl _ _)) ((all_app (Q := fun u => EffOk w30 u) (fun u hu => ((hp).effOk u hu).keep hB) (mem1 (Q := fun u => EffOk w30 u) (((ownEff_ok (rows_own (f := Op.cs) (m := 1) hb10 (fun u hu => ((mem1 (Q := fun u => OpOk u) (unitOp_ok op)) u hu).size) rfl (by decide)) (mem1 (Q := fun u => OpOk u) (unitOp_ok op)))).keep (Below.refl _ _))))))).keep (Below.refl _ _)), rfl, rfl⟩
            · skip
              refine At.buildSlice (xs := [.tmp 89]) rfl rfl el41 sz45 ze45 (by intro v hv; simp only [List.mem_cons, List.not_mem_nil, or_false] at hv; rcases hv with rfl <;> first | rfl | simp [Value.cells, ((unitOp_ok op)).size]) rfl (by decide) rfl (fun b12 w31 F12 => ?_)
              have n_b1_b12 : b1 ≠ b12 := Nat.ne_of_lt (F12.lt hb1)
              have n_b2_b12 : b2 ≠ b12 := Nat.ne_of_lt (F12.lt hb2)
              have n_b8_b12 : b8 ≠ b12 := Nat.ne_of_lt (F12.lt hb8)
              have gb12 := F12.ge hB
              replace hb1 := F12.old hb1
              replace hb2 := F12.old hb2
              replace hb8 := F12.old hb8
              replace hO1 := hO1.fresh F12
              have hb12 : w31.heap[b12]? = some (.cells (([(unitOp op)].map Op.cs).flatMap (·.toList)).toArray 45) := F12.new
              replace hB := F12.below' hB
              refine At.ops0 ?_
              refine At.wpcN (.cons rfl rfl rfl rfl (fun Lx => ?_) (.cons rfl rfl rfl rfl (fun Lx => ?_) (.cons rfl rfl rfl rfl (fun Lx => ?_) .nil))) ?_
              · skip
                refine At.fieldAddr rfl fo35_0 rfl ?_
                refine At.ops0 ?_
                exact fun a ha => ⟨ha, rfl⟩
              · skip
                refine At.load rfl (Ld.ownCell ag22 hb1 (hp).c0) rfl ?_
                refine At.ops0 ?_
                exact fun a ha => ⟨ha, rfl⟩
              · skip
                refine At.move rfl rfl ?_
                refine At.ops0 ?_
                exact fun a ha => ⟨ha, rfl⟩
              refine At.wpcS (i := 10) (d := 91) (.agg #[.string name, (.slice (some ⟨b12, 0, none⟩) 1 1)]) (by kernel_rfl) rfl rfl rfl (fun Lx => ?_) ?_
              · skip
                refine At.build (C := #[.string name, (.slice (some ⟨b12, 0, none⟩) 1 1)]) sd43 ze43 rfl (Bld.cons fo43_0 rfl (by first | decide | exact Nat.le_of_ble_eq_true rfl) (Bld.cons fo43_1 rfl (by first | decide | exact Nat.le_of_ble_eq_true rfl) (Bld.nil _))) rfl ?_
                refine At.ops0 ?_
                exact fun a ha => ⟨ha, rfl⟩
              refine At.wpcE [3, 11] (by kernel_rfl) (by kernel_rfl) (.cons [4, 10] rfl (by kernel_rfl) ?_ (.cons [1, 2] rfl (by kernel_rfl) ?_ .nil))
              · skip
                refine At.appendR (f := Eff.cs) rfl rfl el22 el22 sz43 by43 ze43 rfl hO1 (((hp).effsAt).keep hB) (by decide) (fun u hu => (((fun u hu => ((hp).effOk u hu).keep hB)) u hu).one) (by simp; omega) (by simp; omega) rfl (fun va3 w32 hO4 hA3 => ?_)
                replace hO4 : OwnR 43 2 Eff.cs w32 va3 p.effs := hO4
                replace hb1 := hA3.old hb1 (hO1.neT hb1 rfl)
                replace hb2 := hA3.old hb2 (hO1.neT hb2 rfl)
                replace hb8 := hA3.old hb8 (hO1.neT hb8 rfl)
                replace hb12 := hA3.old hb12 (hO1.neT hb12 rfl)
                have ghO4 := hA3.ge hB.size ghO1
                replace hB := hA3.below hB hB.size ghO1
                refine At.ops0 ?_
                refine At.wpcN (.cons rfl rfl rfl rfl (fun Lx => ?_) (.cons rfl rfl rfl rfl (fun Lx => ?_) .nil)) ?_
                · skip
                  refine At.move rfl rfl ?_
                  refine At.ops0 ?_
                  exact fun a ha => ⟨ha, rfl⟩
                · skip
                  refine At.build (C := #[.string name, (.slice (some ⟨b12, 0, none⟩) 1 1)]) sd43 ze43 rfl (Bld.cons fo43_0 rfl (by first | decide | exact Nat.le_of_ble_eq_true rfl) (Bld.cons fo43_1 rfl (by first | decide | exact Nat.le_of_ble_eq_true rfl) (Bld.nil _))) rfl ?_
                  refine At.ops0 ?_
                  exact fun a ha => ⟨ha, rfl⟩
                refine At.wpcE [11] (by kernel_rfl) (by kernel_rfl) (.cons [] rfl (by kernel_rfl) ?_ .nil)
                refine At.buildSlice (xs := [.tmp 91]) rfl rfl el22 sz43 ze43 (by intro v hv; simp only [List.mem_cons, List.not_mem_nil, or_false] at hv; rcases hv with rfl <;> first | rfl | simp [Value.cells, ((ownEff_ok (rows_own (f := Op.cs) (m := 1) hb12 (fun u hu => ((mem1 (Q := fun u => OpOk u) (unitOp_ok op)) u hu).size) rfl (by decide)) (mem1 (Q := fun u => OpOk u) (unitOp_ok op)))).size]) rfl (by decide) rfl (fun b13 w33 F13 => ?_)
                have q_hO4_b13 : some b13 ≠ Value.ownBlock va3 := Own.neFresh hO4 F13
                have n_b1_b13 : b1 ≠ b13 := Nat.ne_of_lt (F13.lt hb1)
                have n_b2_b13 : b2 ≠ b13 := Nat.ne_of_lt (F13.lt hb2)
                have n_b8_b13 : b8 ≠ b13 := Nat.ne_of_lt (F13.lt hb8)
                have n_b12_b13 : b12 ≠ b13 := Nat.ne_of_lt (F13.lt hb12)
                have gb13 := F13.ge hB
                replace hb1 := F13.old hb1
                replace hb2 := F13.old hb2
                replace hb8 := F13.old hb8
                replace hb12 := F13.old hb12
                replace hO4 := hO4.fresh F13
                have hb13 : w33.heap[b13]? = some (.cells (([(ownEff name (.slice (some ⟨b12, 0, none⟩) 1 1) [(unitOp op)])].map Eff.cs).flatMap (·.toList)).toArray 43) := F13.new
                replace hB := F13.below' hB
                refine At.ops0 ?_
                refine At.wpcN .nil ?_
                refine At.wpcE [12] (by kernel_rfl) (by kernel_rfl) (.cons [] rfl (by kernel_rfl) ?_ .nil)
                refine At.appendR (f := Eff.cs) rfl rfl el22 el22 sz43 by43 ze43 rfl hO4 (rows_own (f := Eff.cs) (m := 1) hb13 (fun u hu => ((mem1 (Q := fun u => EffOk w33 u) (((ownEff_ok (rows_own (f := Op.cs) (m := 1) hb12 (fun u hu => ((mem1 (Q := fun u => OpOk u) (unitOp_ok op)) u hu).size) rfl (by decide)) (mem1 (Q := fun u => OpOk u) (unitOp_ok op)))).keep (Below.refl _ _))) u hu).size) rfl (by decide)) (by decide) (fun u hu => (((mem1 (Q := fun u => EffOk w33 u) (((ownEff_ok (rows_own (f := Op.cs) (m := 1) hb12 (fun u hu => ((mem1 (Q := fun u => OpOk u) (unitOp_ok op)) u hu).size) rfl (by decide)) (mem1 (Q := fun u => OpOk u) (unitOp_ok op)))).keep (Below.refl _ _)))) u hu).one) (by simp; omega) (by simp; omega) rfl (fun va4 w34 hO5 hA4 => ?_)
                replace hO5 : OwnR 43 2 Eff.cs w34 va4 (p.effs ++ [(ownEff name (.slice (some ⟨b12, 0, none⟩) 1 1) [(unitOp op)])]) := hO5
                replace hb1 := hA4.old hb1 (hO4.neT hb1 rfl)
                replace hb2 := hA4.old hb2 (hO4.neT hb2 rfl)
                replace hb8 := hA4.old hb8 (hO4.neT hb8 rfl)
                replace hb12 := hA4.old hb12 (hO4.neT hb12 rfl)
                clear hb13
                have ghO5 := hA4.ge hB.size ghO4
                replace hB := hA4.below hB hB.size ghO4
                refine At.ops0 ?_
                refine At.wpcN .nil ?_
                refine At.wpcS (i := 13) (d := 94) (.pointer (some ⟨b8, 0 + 0, none⟩)) (by kernel_rfl) rfl rfl rfl (fun Lx => ?_) ?_
                · skip
                  refine At.fieldAddr rfl fo35_0 rfl ?_
                  refine At.ops0 ?_
                  exact fun a ha => ⟨ha, rfl⟩
                refine At.wpcE [14] (by kernel_rfl) (by kernel_rfl) (.cons [] rfl (by kernel_rfl) ?_ .nil)
                refine At.store1 rfl rfl hb8 sz22 (by rw [(hp).size]; decide) (hO5).one (fun w35 S9 => ?_)
                replace hb1 := S9.other hb1 n_b1_b8
                replace hb2 := S9.other hb2 n_b2_b8
                replace hb12 := S9.other hb12 n_b8_b12.symm
                replace hO5 := hO5.set S9 (hO5.neT hb8 rfl)
                replace hb8 : w35.heap[b8]? = some (.cells (Pr.withEffs p va4 (p.effs ++ [(ownEff name (.slice (some ⟨b12, 0, none⟩) 1 1) [(unitOp op)])])).cs 35) := S9.new
                replace hB := S9.below' hB gb8
                refine At.ops0 ?_
                refine At.wpcN .nil ?_
                refine At.wpcZ ?_
                exact At.joinedG (va4, (ownEff name (.slice (some ⟨b12, 0, none⟩) 1 1) [(unitOp op)])) (Sub.cons rfl (Sub.cons rfl (Sub.cons rfl (Sub.cons rfl (Sub.cons rfl (Sub.cons rfl (Sub.cons rfl (Sub.cons rfl (Sub.cons rfl (Sub.cons rfl (Sub.cons rfl Sub.nil))))))))))) ⟨hB, hb1, hb2, hb8, (((PrOk.withEffs ((hp).keep hB) (((OwnR.rows hO5 (fun u hu => (((all_app (Q := fun u => EffOk w35 u) (fun u hu => ((hp).effOk u hu).keep hB) (mem1 (Q := fun u => EffOk w35 u) (((ownEff_ok (rows_own (f := Op.cs) (m := 1) hb12 (fun u hu => ((mem1 (Q := fun u => OpOk u) (unitOp_ok op)) u hu).size) rfl (by decide)) (mem1 (Q := fun u => OpOk u) (unitOp_ok op)))).keep (Below.refl _ _))))) u hu).size))).keep (Below.refl _ _)) ((all_app (Q := fun u => EffOk w35 u) (fun u hu => ((hp).effOk u hu).keep hB) (mem1 (Q := fun u => EffOk w35 u) (((ownEff_ok (rows_own (f := Op.cs) (m := 1) hb12 (fun u hu => ((mem1 (Q := fun u => OpOk u) (unitOp_ok op)) u hu).size) rfl (by decide)) (mem1 (Q := fun u => OpOk u) (unitOp_ok op)))).keep (Below.refl _ _))))))).keep (Below.refl _ _)), rfl, rfl⟩
              · skip
                refine At.buildSlice (xs := [.tmp 91]) rfl rfl el22 sz43 ze43 (by intro v hv; simp only [List.mem_cons, List.not_mem_nil, or_false] at hv; rcases hv with rfl <;> first | rfl | simp [Value.cells, ((ownEff_ok (rows_own (f := Op.cs) (m := 1) hb12 (fun u hu => ((mem1 (Q := fun u => OpOk u) (unitOp_ok op)) u hu).size) rfl (by decide)) (mem1 (Q := fun u => OpOk u) (unitOp_ok op)))).size]) rfl (by decide) rfl (fun b14 w36 F14 => ?_)
                have q_hO1_b14 : some b14 ≠ Value.ownBlock (.slice (some ⟨b9, 0, none⟩) 0 0) := Own.neFresh hO1 F14
                have n_b1_b14 : b1 ≠ b14 := Nat.ne_of_lt (F14.lt hb1)
                have n_b2_b14 : b2 ≠ b14 := Nat.ne_of_lt (F14.lt hb2)
                have n_b8_b14 : b8 ≠ b14 := Nat.ne_of_lt (F14.lt hb8)
                have n_b12_b14 : b12 ≠ b14 := Nat.ne_of_lt (F14.lt hb12)
                have gb14 := F14.ge hB
                replace hb1 := F14.old hb1
                replace hb2 := F14.old hb2
                replace hb8 := F14.old hb8
                replace hb12 := F14.old hb12
                replace hO1 := hO1.fresh F14
                have hb14 : w36.heap[b14]? = some (.cells (([(ownEff name (.slice (some ⟨b12, 0, none⟩) 1 1) [(unitOp op)])].map Eff.cs).flatMap (·.toList)).toArray 43) := F14.new
                replace hB := F14.below' hB
                refine At.ops0 ?_
                refine At.wpcN (.cons rfl rfl rfl rfl (fun Lx => ?_) (.cons rfl rfl rfl rfl (fun Lx => ?_) .nil)) ?_
                · skip
                  refine At.fieldAddr rfl fo35_0 rfl ?_
                  refine At.ops0 ?_
                  exact fun a ha => ⟨ha, rfl⟩
                · skip
                  refine At.load rfl (Ld.ownCell ag22 hb1 (hp).c0) rfl ?_
                  refine At.ops0 ?_
                  exact fun a ha => ⟨ha, rfl⟩
                refine At.wpcE [3] (by kernel_rfl) (by kernel_rfl) (.cons [] rfl (by kernel_rfl) ?_ .nil)
                refine At.appendR (f := Eff.cs) rfl rfl el22 el22 sz43 by43 ze43 rfl hO1 (((hp).effsAt).keep hB) (by decide) (fun u hu => (((fun u hu => ((hp).effOk u hu).keep hB)) u hu).one) (by simp; omega) (by simp; omega) rfl (fun va5 w37 hO6 hA5 => ?_)
                replace hO6 : OwnR 43 2 Eff.cs w37 va5 p.effs := hO6
                replace hb1 := hA5.old hb1 (hO1.neT hb1 rfl)
                replace hb2 := hA5.old hb2 (hO1.neT hb2 rfl)
                replace hb8 := hA5.old hb8 (hO1.neT hb8 rfl)
                replace hb12 := hA5.old hb12 (hO1.neT hb12 rfl)
                have q_hO6_b14 : some b14 ≠ Value.ownBlock va5 := Moved.ne hA5.blk (Array.getElem?_eq_some_iff.1 hb14).1 q_hO1_b14
                replace hb14 := hA5.old hb14 q_hO1_b14
                have ghO6 := hA5.ge hB.size ghO1
                replace hB := hA5.below hB hB.size ghO1
                refine At.ops0 ?_
                refine At.wpcN .nil ?_
                refine At.wpcE [12] (by kernel_rfl) (by kernel_rfl) (.cons [] rfl (by kernel_rfl) ?_ .nil)
                refine At.appendR (f := Eff.cs) rfl rfl el22 el22 sz43 by43 ze43 rfl hO6 (rows_own (f := Eff.cs) (m := 1) hb14 (fun u hu => ((mem1 (Q := fun u => EffOk w37 u) (((ownEff_ok (rows_own (f := Op.cs) (m := 1) hb12 (fun u hu => ((mem1 (Q := fun u => OpOk u) (unitOp_ok op)) u hu).size) rfl (by decide)) (mem1 (Q := fun u => OpOk u) (unitOp_ok op)))).keep (Below.refl _ _))) u hu).size) rfl (by decide)) (by decide) (fun u hu => (((mem1 (Q := fun u => EffOk w37 u) (((ownEff_ok (rows_own (f := Op.cs) (m := 1) hb12 (fun u hu => ((mem1 (Q := fun u => OpOk u) (unitOp_ok op)) u hu).size) rfl (by decide)) (mem1 (Q := fun u => OpOk u) (unitOp_ok op)))).keep (Below.refl _ _)))) u hu).one) (by simp; omega) (by simp; omega) rfl (fun va6 w38 hO7 hA6 => ?_)
                replace hO7 : OwnR 43 2 Eff.cs w38 va6 (p.effs ++ [(ownEff name (.slice (some ⟨b12, 0, none⟩) 1 1) [(unitOp op)])]) := hO7
                replace hb1 := hA6.old hb1 (hO6.neT hb1 rfl)
                replace hb2 := hA6.old hb2 (hO6.neT hb2 rfl)
                replace hb8 := hA6.old hb8 (hO6.neT hb8 rfl)
                replace hb12 := hA6.old hb12 (hO6.neT hb12 rfl)
                clear hb14
                have ghO7 := hA6.ge hB.size ghO6
                replace hB := hA6.below hB hB.size ghO6
                refine At.ops0 ?_
                refine At.wpcN .nil ?_
                refine At.wpcS (i := 13) (d := 94) (.pointer (some ⟨b8, 0 + 0, none⟩)) (by kernel_rfl) rfl rfl rfl (fun Lx => ?_) ?_
                · skip
                  refine At.fieldAddr rfl fo35_0 rfl ?_
                  refine At.ops0 ?_
                  exact fun a ha => ⟨ha, rfl⟩
                refine At.wpcE [14] (by kernel_rfl) (by kernel_rfl) (.cons [] rfl (by kernel_rfl) ?_ .nil)
                refine At.store1 rfl rfl hb8 sz22 (by rw [(hp).size]; decide) (hO7).one (fun w39 S10 => ?_)
                replace hb1 := S10.other hb1 n_b1_b8
                replace hb2 := S10.other hb2 n_b2_b8
                replace hb12 := S10.other hb12 n_b8_b12.symm
                replace hO7 := hO7.set S10 (hO7.neT hb8 rfl)
                replace hb8 : w39.heap[b8]? = some (.cells (Pr.withEffs p va6 (p.effs ++ [(ownEff name (.slice (some ⟨b12, 0, none⟩) 1 1) [(unitOp op)])])).cs 35) := S10.new
                replace hB := S10.below' hB gb8
                refine At.ops0 ?_
                refine At.wpcN .nil ?_
                refine At.wpcZ ?_
                exact At.joinedG (va6, (ownEff name (.slice (some ⟨b12, 0, none⟩) 1 1) [(unitOp op)])) (Sub.cons rfl (Sub.cons rfl (Sub.cons rfl (Sub.cons rfl (Sub.cons rfl (Sub.cons rfl (Sub.cons rfl (Sub.cons rfl (Sub.cons rfl (Sub.cons rfl (Sub.cons rfl Sub.nil))))))))))) ⟨hB, hb1, hb2, hb8, (((PrOk.withEffs ((hp).keep hB) (((OwnR.rows hO7 (fun u hu => (((all_app (Q := fun u => EffOk w39 u) (fun u hu => ((hp).effOk u hu).keep hB) (mem1 (Q := fun u => EffOk w39 u) (((ownEff_ok (rows_own (f := Op.cs) (m := 1) hb12 (fun u hu => ((mem1 (Q := fun u => OpOk u) (unitOp_ok op)) u hu).size) rfl (by decide)) (mem1 (Q := fun u => OpOk u) (unitOp_ok op)))).keep (Below.refl _ _))))) u hu).size))).keep (Below.refl _ _)) ((all_app (Q := fun u => EffOk w39 u) (fun u hu => ((hp).effOk u hu).keep hB) (mem1 (Q := fun u => EffOk w39 u) (((ownEff_ok (rows_own (f := Op.cs) (m := 1) hb12 (fun u hu => ((mem1 (Q := fun u => OpOk u) (unitOp_ok op)) u hu).size) rfl (by decide)) (mem1 (Q := fun u => OpOk u) (unitOp_ok op)))).keep (Below.refl _ _))))))).keep (Below.refl _ _)), rfl, rfl⟩
          · skip
            refine At.buildSlice (xs := [.tmp 89]) rfl rfl el41 sz45 ze45 (by intro v hv; simp only [List.mem_cons, List.not_mem_nil, or_false] at hv; rcases hv with rfl <;> first | rfl | simp [Value.cells, ((unitOp_ok op)).size]) rfl (by decide) rfl (fun b15 w40 F15 => ?_)
            have n_b1_b15 : b1 ≠ b15 := Nat.ne_of_lt (F15.lt hb1)
            have n_b2_b15 : b2 ≠ b15 := Nat.ne_of_lt (F15.lt hb2)
            have n_b8_b15 : b8 ≠ b15 := Nat.ne_of_lt (F15.lt hb8)
            have gb15 := F15.ge hB
            replace hb1 := F15.old hb1
            replace hb2 := F15.old hb2
            replace hb8 := F15.old hb8
            have hb15 : w40.heap[b15]? = some (.cells (([(unitOp op)].map Op.cs).flatMap (·.toList)).toArray 45) := F15.new
            replace hB := F15.below' hB
            refine At.ops0 ?_
            refine At.wpcN (.cons rfl rfl rfl rfl (fun Lx => ?_) (.cons rfl rfl rfl rfl (fun Lx => ?_) (.cons rfl rfl rfl rfl (fun Lx => ?_) .nil))) ?_
            · skip
              refine At.fieldAddr rfl fo35_0 rfl ?_
              refine At.ops0 ?_
              exact fun a ha => ⟨ha, rfl⟩
            · skip
              refine At.load rfl (Ld.ownCell ag22 hb1 (hp).c0) rfl ?_
              refine At.ops0 ?_
              exact fun a ha => ⟨ha, rfl⟩
            · skip
              refine At.move rfl rfl ?_
              refine At.ops0 ?_
              exact fun a ha => ⟨ha, rfl⟩
            refine At.wpcS (i := 10) (d := 91) (.agg #[.string name, (.slice (some ⟨b15, 0, none⟩) 1 1)]) (by kernel_rfl) rfl rfl rfl (fun Lx => ?_) ?_
            · skip
              refine At.build (C := #[.string name, (.slice (some ⟨b15, 0, none⟩) 1 1)]) sd43 ze43 rfl (Bld.cons fo43_0 rfl (by first | decide | exact Nat.le_of_ble_eq_true rfl) (Bld.cons fo43_1 rfl (by first | decide | exact Nat.le_of_ble_eq_true rfl) (Bld.nil _))) rfl ?_
              refine At.ops0 ?_
              exact fun a ha => ⟨ha, rfl⟩
            refine At.wpcE [0, 11] (by kernel_rfl) (by kernel_rfl) (.cons [1, 2, 4, 10] rfl (by kernel_rfl) ?_ (.cons [1, 2] rfl (by kernel_rfl) ?_ .nil))
            · skip
              refine At.buildSlice (xs := []) rfl rfl el22 sz43 ze43 (by simp) rfl (by decide) rfl (fun b16 w41 F16 => ?_)
              have n_b1_b16 : b1 ≠ b16 := Nat.ne_of_lt (F16.lt hb1)
              have n_b2_b16 : b2 ≠ b16 := Nat.ne_of_lt (F16.lt hb2)
              have n_b8_b16 : b8 ≠ b16 := Nat.ne_of_lt (F16.lt hb8)
              have n_b15_b16 : b15 ≠ b16 := Nat.ne_of_lt (F16.lt hb15)
              have gb16 := F16.ge hB
              replace hb1 := F16.old hb1
              replace hb2 := F16.old hb2
              replace hb8 := F16.old hb8
              replace hb15 := F16.old hb15
              have hb16 : w41.heap[b16]? = some (.cells #[] 43) := F16.new
              replace hB := F16.below' hB
              have hO8 : OwnR 43 2 Eff.cs w41 (.slice (some ⟨b16, 0, none⟩) 0 0) [] := OwnR.made hb16
              have ghO8 : ∀ g, Value.ownBlock (.slice (some ⟨b16, 0, none⟩) 0 0) = some g → w.heap.size ≤ g := fun g h => by cases h; exact gb16
              have qhO8_b1 : some b1 ≠ Value.ownBlock (.slice (some ⟨b16, 0, none⟩) 0 0) := fun e => n_b1_b16 (Option.some.inj e)
              have qhO8_b2 : some b2 ≠ Value.ownBlock (.slice (some ⟨b16, 0, none⟩) 0 0) := fun e => n_b2_b16 (Option.some.inj e)
              have qhO8_b8 : some b8 ≠ Value.ownBlock (.slice (some ⟨b16, 0, none⟩) 0 0) := fun e => n_b8_b16 (Option.some.inj e)
              have qhO8_b15 : some b15 ≠ Value.ownBlock (.slice (some ⟨b16, 0, none⟩) 0 0) := fun e => n_b15_b16 (Option.some.inj e)
              clear hb16
              refine At.ops0 ?_
              refine At.wpcN (.cons rfl rfl rfl rfl (fun Lx => ?_) (.cons rfl rfl rfl rfl (fun Lx => ?_) (.cons rfl rfl rfl rfl (fun Lx => ?_) (.cons rfl rfl rfl rfl (fun Lx => ?_) .nil)))) ?_
              · skip
                refine At.fieldAddr rfl fo35_0 rfl ?_
                refine At.ops0 ?_
                exact fun a ha => ⟨ha, rfl⟩
              · skip
                refine At.load rfl (Ld.ownCell ag22 hb1 (hp).c0) rfl ?_
                refine At.ops0 ?_
                exact fun a ha => ⟨ha, rfl⟩
              · skip
                refine At.move rfl rfl ?_
                refine At.ops0 ?_
                exact fun a ha => ⟨ha, rfl⟩
              · skip
                refine At.build (C := #[.string name, (.slice (some ⟨b15, 0, none⟩) 1 1)]) sd43 ze43 rfl (Bld.cons fo43_0 rfl (by first | decide | exact Nat.le_of_ble_eq_true rfl) (Bld.cons fo43_1 rfl (by first | decide | exact Nat.le_of_ble_eq_true rfl) (Bld.nil _))) rfl ?_
                refine At.ops0 ?_
                exact fun a ha => ⟨ha, rfl⟩
              refine At.wpcE [3, 11] (by kernel_rfl) (by kernel_rfl) (.cons [4, 10] rfl (by kernel_rfl) ?_ (.cons [1, 2] rfl (by kernel_rfl) ?_ .nil))
              · skip
                refine At.appendR (f := Eff.cs) rfl rfl el22 el22 sz43 by43 ze43 rfl hO8 (((hp).effsAt).keep hB) (by decide) (fun u hu => (((fun u hu => ((hp).effOk u hu).keep hB)) u hu).one) (by simp; omega) (by simp; omega) rfl (fun va7 w42 hO9 hA7 => ?_)
                replace hO9 : OwnR 43 2 Eff.cs w42 va7 p.effs := hO9
                replace hb1 := hA7.old hb1 (hO8.neT hb1 rfl)
                replace hb2 := hA7.old hb2 (hO8.neT hb2 rfl)
                replace hb8 := hA7.old hb8 (hO8.neT hb8 rfl)
                replace hb15 := hA7.old hb15 (hO8.neT hb15 rfl)
                have ghO9 := hA7.ge hB.size ghO8
                replace hB := hA7.below hB hB.size ghO8
                refine At.ops0 ?_
                refine At.wpcN (.cons rfl rfl rfl rfl (fun Lx => ?_) (.cons rfl rfl rfl rfl (fun Lx => ?_) .nil)) ?_
                · skip
                  refine At.move rfl rfl ?_
                  refine At.ops0 ?_
                  exact fun a ha => ⟨ha, rfl⟩
                · skip
                  refine At.build (C := #[.string name, (.slice (some ⟨b15, 0, none⟩) 1 1)]) sd43 ze43 rfl (Bld.cons fo43_0 rfl (by first | decide | exact Nat.le_of_ble_eq_true rfl) (Bld.cons fo43_1 rfl (by first | decide | exact Nat.le_of_ble_eq_true rfl) (Bld.nil _))) rfl ?_
                  refine At.ops0 ?_
                  exact fun a ha => ⟨ha, rfl⟩
                refine At.wpcE [11] (by kernel_rfl) (by kernel_rfl) (.cons [] rfl (by kernel_rfl) ?_ .nil)
                refine At.buildSlice (xs := [.tmp 91]) rfl rfl el22 sz43 ze43 (by intro v hv; simp only [List.mem_cons, List.not_mem_nil, or_false] at hv; rcases hv with rfl <;> first | rfl | simp [Value.cells, ((ownEff_ok (rows_own (f := Op.cs) (m := 1) hb15 (fun u hu => ((mem1 (Q := fun u => OpOk u) (unitOp_ok op)) u hu).size) rfl (by decide)) (mem1 (Q := fun u => OpOk u) (unitOp_ok op)))).size]) rfl (by decide) rfl (fun b17 w43 F17 => ?_)
                have q_hO9_b17 : some b17 ≠ Value.ownBlock va7 := Own.neFresh hO9 F17
                have n_b1_b17 : b1 ≠ b17 := Nat.ne_of_lt (F17.lt hb1)
                have n_b2_b17 : b2 ≠ b17 := Nat.ne_of_lt (F17.lt hb2)
                have n_b8_b17 : b8 ≠ b17 := Nat.ne_of_lt (F17.lt hb8)
                have n_b15_b17 : b15 ≠ b17 := Nat.ne_of_lt (F17.lt hb15)
                have gb17 := F17.ge hB
                replace hb1 := F17.old hb1
                replace hb2 := F17.old hb2
                replace hb8 := F17.old hb8
                replace hb15 := F17.old hb15
                replace hO9 := hO9.fresh F17
                have hb17 : w43.heap[b17]? = some (.cells (([(ownEff name (.slice (some ⟨b15, 0, none⟩) 1 1) [(unitOp op)])].map Eff.cs).flatMap (·.toList)).toArray 43) := F17.new
                replace hB := F17.below' hB
                refine At.ops0 ?_
                refine At.wpcN .nil ?_
                refine At.wpcE [12] (by kernel_rfl) (by kernel_rfl) (.cons [] rfl (by kernel_rfl) ?_ .nil)
                refine At.appendR (f := Eff.cs) rfl rfl el22 el22 sz43 by43 ze43 rfl hO9 (rows_own (f := Eff.cs) (m := 1) hb17 (fun u hu => ((mem1 (Q := fun u => EffOk w43 u) (((ownEff_ok (rows_own (f := Op.cs) (m := 1) hb15 (fun u hu => ((mem1 (Q := fun u => OpOk u) (unitOp_ok op)) u hu).size) rfl (by decide)) (mem1 (Q := fun u => OpOk u) (unitOp_ok op)))).keep (Below.refl _ _))) u hu).size) rfl (by decide)) (by decide) (fun u hu => (((mem1 (Q := fun u => EffOk w43 u) (((ownEff_ok (rows_own (f := Op.cs) (m := 1) hb15 (fun u hu => ((mem1 (Q := fun u => OpOk u) (unitOp_ok op)) u hu).size) rfl (by decide)) (mem1 (Q := fun u => OpOk u) (unitOp_ok op)))).keep (Below.refl _ _)))) u hu).one) (by simp; omega) (by simp; omega) rfl (fun va8 w44 hO10 hA8 => ?_)
                replace hO10 : OwnR 43 2 Eff.cs w44 va8 (p.effs ++ [(ownEff name (.slice (some ⟨b15, 0, none⟩) 1 1) [(unitOp op)])]) := hO10
                replace hb1 := hA8.old hb1 (hO9.neT hb1 rfl)
                replace hb2 := hA8.old hb2 (hO9.neT hb2 rfl)
                replace hb8 := hA8.old hb8 (hO9.neT hb8 rfl)
                replace hb15 := hA8.old hb15 (hO9.neT hb15 rfl)
                clear hb17
                have ghO10 := hA8.ge hB.size ghO9
                replace hB := hA8.below hB hB.size ghO9
                refine At.ops0 ?_
                refine At.wpcN .nil ?_
                refine At.wpcS (i := 13) (d := 94) (.pointer (some ⟨b8, 0 + 0, none⟩)) (by kernel_rfl) rfl rfl rfl (fun Lx => ?_) ?_
                · skip
                  refine At.fieldAddr rfl fo35_0 rfl ?_
                  refine At.ops0 ?_
                  exact fun a ha => ⟨ha, rfl⟩
                refine At.wpcE [14] (by kernel_rfl) (by kernel_rfl) (.cons [] rfl (by kernel_rfl) ?_ .nil)
                refine At.store1 rfl rfl hb8 sz22 (by rw [(hp).size]; decide) (hO10).one (fun w45 S11 => ?_)
                replace hb1 := S11.other hb1 n_b1_b8
                replace hb2 := S11.other hb2 n_b2_b8
                replace hb15 := S11.other hb15 n_b8_b15.symm
                replace hO10 := hO10.set S11 (hO10.neT hb8 rfl)
                replace hb8 : w45.heap[b8]? = some (.cells (Pr.withEffs p va8 (p.effs ++ [(ownEff name (.slice (some ⟨b15, 0, none⟩) 1 1) [(unitOp op)])])).cs 35) := S11.new
                replace hB := S11.below' hB gb8
                refine At.ops0 ?_
                refine At.wpcN .nil ?_
                refine At.wpcZ ?_
                exact At.joinedG (va8, (ownEff name (.slice (some ⟨b15, 0, none⟩) 1 1) [(unitOp op)])) (Sub.cons rfl (Sub.cons rfl (Sub.cons rfl (Sub.cons rfl (Sub.cons rfl (Sub.cons rfl (Sub.cons rfl (Sub.cons rfl (Sub.cons rfl (Sub.cons rfl (Sub.cons rfl Sub.nil))))))))))) ⟨hB, hb1, hb2, hb8, (((PrOk.withEffs ((hp).keep hB) (((OwnR.rows hO10 (fun u hu => (((all_app (Q := fun u => EffOk w45 u) (fun u hu => ((hp).effOk u hu).keep hB) (mem1 (Q := fun u => EffOk w45 u) (((ownEff_ok (rows_own (f := Op.cs) (m := 1) hb15 (fun u hu => ((mem1 (Q := fun u => OpOk u) (unitOp_ok op)) u hu).size) rfl (by decide)) (mem1 (Q := fun u => OpOk u) (unitOp_ok op)))).keep (Below.refl _ _))))) u hu).size))).keep (Below.refl _ _)) ((all_app (Q := fun u => EffOk w45 u) (fun u hu => ((hp).effOk u hu).keep hB) (mem1 (Q := fun u => EffOk w45 u) (((ownEff_ok (rows_own (f := Op.cs) (m := 1) hb15 (fun u hu => ((mem1 (Q := fun u => OpOk u) (unitOp_ok op)) u hu).size) rfl (by decide)) (mem1 (Q := fun u => OpOk u) (unitOp_ok op)))).keep (Below.refl _ _))))))).keep (Below.refl _ _)), rfl, rfl⟩
              · skip
                refine At.buildSlice (xs := [.tmp 91]) rfl rfl el22 sz43 ze43 (by intro v hv; simp only [List.mem_cons, List.not_mem_nil, or_false] at hv; rcases hv with rfl <;> first | rfl | simp [Value.cells, ((ownEff_ok (rows_own (f := Op.cs) (m := 1) hb15 (fun u hu => ((mem1 (Q := fun u => OpOk u) (unitOp_ok op)) u hu).size) rfl (by decide)) (mem1 (Q := fun u => OpOk u) (unitOp_ok op)))).size]) rfl (by decide) rfl (fun b18 w46 F18 => ?_)
                have q_hO8_b18 : some b18 ≠ Value.ownBlock (.slice (some ⟨b16, 0, none⟩) 0 0) := Own.neFresh hO8 F18
                have n_b1_b18 : b1 ≠ b18 := Nat.ne_of_lt (F18.lt hb1)
                have n_b2_b18 : b2 ≠ b18 := Nat.ne_of_lt (F18.lt hb2)
                have n_b8_b18 : b8 ≠ b18 := Nat.ne_of_lt (F18.lt hb8)
                have n_b15_b18 : b15 ≠ b18 := Nat.ne_of_lt (F18.lt hb15)
                have gb18 := F18.ge hB
                replace hb1 := F18.old hb1
                replace hb2 := F18.old hb2
                replace hb8 := F18.old hb8
                replace hb15 := F18.old hb15
                replace hO8 := hO8.fresh F18
                have hb18 : w46.heap[b18]? = some (.cells (([(ownEff name (.slice (some ⟨b15, 0, none⟩) 1 1) [(unitOp op)])].map Eff.cs).flatMap (·.toList)).toArray 43) := F18.new
                replace hB := F18.below' hB
                refine At.ops0 ?_
                refine At.wpcN (.cons rfl rfl rfl rfl (fun Lx => ?_) (.cons rfl rfl rfl rfl (fun Lx => ?_) .nil)) ?_
                · skip
                  refine At.fieldAddr rfl fo35_0 rfl ?_
                  refine At.ops0 ?_
                  exact fun a ha => ⟨ha, rfl⟩
                · skip
                  refine At.load rfl (Ld.ownCell ag22 hb1 (hp).c0) rfl ?_
                  refine At.ops0 ?_
                  exact fun a ha => ⟨ha, rfl⟩
                refine At.wpcE [3] (by kernel_rfl) (by kernel_rfl) (.cons [] rfl (by kernel_rfl) ?_ .nil)
                refine At.appendR (f := Eff.cs) rfl rfl el22 el22 sz43 by43 ze43 rfl hO8 (((hp).effsAt).keep hB) (by decide) (fun u hu => (((fun u hu => ((hp).effOk u hu).keep hB)) u hu).one) (by simp; omega) (by simp; omega) rfl (fun va9 w47 hO11 hA9 => ?_)
                replace hO11 : OwnR 43 2 Eff.cs w47 va9 p.effs := hO11
                replace hb1 := hA9.old hb1 (hO8.neT hb1 rfl)
                replace hb2 := hA9.old hb2 (hO8.neT hb2 rfl)
                replace hb8 := hA9.old hb8 (hO8.neT hb8 rfl)
                replace hb15 := hA9.old hb15 (hO8.neT hb15 rfl)
                have q_hO11_b18 : some b18 ≠ Value.ownBlock va9 := Moved.ne hA9.blk (Array.getElem?_eq_some_iff.1 hb18).1 q_hO8_b18
                replace hb18 := hA9.old hb18 q_hO8_b18
                have ghO11 := hA9.ge hB.size ghO8
                replace hB := hA9.below hB hB.size ghO8
                refine At.ops0 ?_
                refine At.wpcN .nil ?_
                refine At.wpcE [12] (by kernel_rfl) (by kernel_rfl) (.cons [] rfl (by kernel_rfl) ?_ .nil)
                refine At.appendR (f := Eff.cs) rfl rfl el22 el22 sz43 by43 ze43 rfl hO11 (rows_own (f := Eff.cs) (m := 1) hb18 (fun u hu => ((mem1 (Q := fun u => EffOk w47 u) (((ownEff_ok (rows_own (f := Op.cs) (m := 1) hb15 (fun u hu => ((mem1 (Q := fun u => OpOk u) (unitOp_ok op)) u hu).size) rfl (by decide)) (mem1 (Q := fun u => OpOk u) (unitOp_ok op)))).keep (Below.refl _ _))) u hu).size) rfl (by decide)) (by decide) (fun u hu => (((mem1 (Q := fun u => EffOk w47 u) (((ownEff_ok (rows_own (f := Op.cs) (m := 1) hb15 (fun u hu => ((mem1 (Q := fun u => OpOk u) (unitOp_ok op)) u hu).size) rfl (by decide)) (mem1 (Q := fun u => OpOk u) (unitOp_ok op)))).keep (Below.refl _ _)))) u hu).one) (by simp; omega) (by simp; omega) rfl (fun va10 w48 hO12 hA10 => ?_)
                replace hO12 : OwnR 43 2 Eff.cs w48 va10 (p.effs ++ [(ownEff name (.slice (some ⟨b15, 0, none⟩) 1 1) [(unitOp op)])]) := hO12
                replace hb1 := hA10.old hb1 (hO11.neT hb1 rfl)
                replace hb2 := hA10.old hb2 (hO11.neT hb2 rfl)
                replace hb8 := hA10.old hb8 (hO11.neT hb8 rfl)
                replace hb15 := hA10.old hb15 (hO11.neT hb15 rfl)
                clear hb18
                have ghO12 := hA10.ge hB.size ghO11
                replace hB := hA10.below hB hB.size ghO11
                refine At.ops0 ?_
                refine At.wpcN .nil ?_
                refine At.wpcS (i := 13) (d := 94) (.pointer (some ⟨b8, 0 + 0, none⟩)) (by kernel_rfl) rfl rfl rfl (fun Lx => ?_) ?_
                · skip
                  refine At.fieldAddr rfl fo35_0 rfl ?_
                  refine At.ops0 ?_
                  exact fun a ha => ⟨ha, rfl⟩
                refine At.wpcE [14] (by kernel_rfl) (by kernel_rfl) (.cons [] rfl (by kernel_rfl) ?_ .nil)
                refine At.store1 rfl rfl hb8 sz22 (by rw [(hp).size]; decide) (hO12).one (fun w49 S12 => ?_)
                replace hb1 := S12.other hb1 n_b1_b8
                replace hb2 := S12.other hb2 n_b2_b8
                replace hb15 := S12.other hb15 n_b8_b15.symm
                replace hO12 := hO12.set S12 (hO12.neT hb8 rfl)
                replace hb8 : w49.heap[b8]? = some (.cells (Pr.withEffs p va10 (p.effs ++ [(ownEff name (.slice (some ⟨b15, 0, none⟩) 1 1) [(unitOp op)])])).cs 35) := S12.new
                replace hB := S12.below' hB gb8
                refine At.ops0 ?_
                refine At.wpcN .nil ?_
                refine At.wpcZ ?_
                exact At.joinedG (va10, (ownEff name (.slice (some ⟨b15, 0, none⟩) 1 1) [(unitOp op)])) (Sub.cons rfl (Sub.cons rfl (Sub.cons rfl (Sub.cons rfl (Sub.cons rfl (Sub.cons rfl (Sub.cons rfl (Sub.cons rfl (Sub.cons rfl (Sub.cons rfl (Sub.cons rfl Sub.nil))))))))))) ⟨hB, hb1, hb2, hb8, (((PrOk.withEffs ((hp).keep hB) (((OwnR.rows hO12 (fun u hu => (((all_app (Q := fun u => EffOk w49 u) (fun u hu => ((hp).effOk u hu).keep hB) (mem1 (Q := fun u => EffOk w49 u) (((ownEff_ok (rows_own (f := Op.cs) (m := 1) hb15 (fun u hu => ((mem1 (Q := fun u => OpOk u) (unitOp_ok op)) u hu).size) rfl (by decide)) (mem1 (Q := fun u => OpOk u) (unitOp_ok op)))).keep (Below.refl _ _))))) u hu).size))).keep (Below.refl _ _)) ((all_app (Q := fun u => EffOk w49 u) (fun u hu => ((hp).effOk u hu).keep hB) (mem1 (Q := fun u => EffOk w49 u) (((ownEff_ok (rows_own (f := Op.cs) (m := 1) hb15 (fun u hu => ((mem1 (Q := fun u => OpOk u) (unitOp_ok op)) u hu).size) rfl (by decide)) (mem1 (Q := fun u => OpOk u) (unitOp_ok op)))).keep (Below.refl _ _))))))).keep (Below.refl _ _)), rfl, rfl⟩
            · skip
              refine At.buildSlice (xs := [.tmp 91]) rfl rfl el22 sz43 ze43 (by intro v hv; simp only [List.mem_cons, List.not_mem_nil, or_false] at hv; rcases hv with rfl <;> first | rfl | simp [Value.cells, ((ownEff_ok (rows_own (f := Op.cs) (m := 1) hb15 (fun u hu => ((mem1 (Q := fun u => OpOk u) (unitOp_ok op)) u hu).size) rfl (by decide)) (mem1 (Q := fun u => OpOk u) (unitOp_ok op)))).size]) rfl (by decide) rfl (fun b19 w50 F19 => ?_)
              have n_b1_b19 : b1 ≠ b19 := Nat.ne_of_lt (F19.lt hb1)
              have n_b2_b19 : b2 ≠ b19 := Nat.ne_of_lt (F19.lt hb2)
              have n_b8_b19 : b8 ≠ b19 := Nat.ne_of_lt (F19.lt hb8)
              have n_b15_b19 : b15 ≠ b19 := Nat.ne_of_lt (F19.lt hb15)
              have gb19 := F19.ge hB
              replace hb1 := F19.old hb1
              replace hb2 := F19.old hb2
              replace hb8 := F19.old hb8
              replace hb15 := F19.old hb15
              have hb19 : w50.heap[b19]? = some (.cells (([(ownEff name (.slice (some ⟨b15, 0, none⟩) 1 1) [(unitOp op)])].map Eff.cs).flatMap (·.toList)).toArray 43) := F19.new
              replace hB := F19.below' hB
              refine At.ops0 ?_
              refine At.wpcN (.cons rfl rfl rfl rfl (fun Lx => ?_) (.cons rfl rfl rfl rfl (fun Lx => ?_) .nil)) ?_
              · skip
                refine At.fieldAddr rfl fo35_0 rfl ?_
                refine At.ops0 ?_
                exact fun a ha => ⟨ha, rfl⟩
              · skip
                refine At.load rfl (Ld.ownCell ag22 hb1 (hp).c0) rfl ?_
                refine At.ops0 ?_
                exact fun a ha => ⟨ha, rfl⟩
              refine At.wpcE [0] (by kernel_rfl) (by kernel_rfl) (.cons [1, 2] rfl (by kernel_rfl) ?_ .nil)
              refine At.buildSlice (xs := []) rfl rfl el22 sz43 ze43 (by simp) rfl (by decide) rfl (fun b20 w51 F20 => ?_)
              have n_b1_b20 : b1 ≠ b20 := Nat.ne_of_lt (F20.lt hb1)
              have n_b2_b20 : b2 ≠ b20 := Nat.ne_of_lt (F20.lt hb2)
              have n_b8_b20 : b8 ≠ b20 := Nat.ne_of_lt (F20.lt hb8)
              have n_b15_b20 : b15 ≠ b20 := Nat.ne_of_lt (F20.lt hb15)
              have n_b19_b20 : b19 ≠ b20 := Nat.ne_of_lt (F20.lt hb19)
              have gb20 := F20.ge hB
              replace hb1 := F20.old hb1
              replace hb2 := F20.old hb2
              replace hb8 := F20.old hb8
              replace hb15 := F20.old hb15
              replace hb19 := F20.old hb19
              have hb20 : w51.heap[b20]? = some (.cells #[] 43) := F20.new
              replace hB := F20.below' hB
              have hO13 : OwnR 43 2 Eff.cs w51 (.slice (some ⟨b20, 0, none⟩) 0 0) [] := OwnR.made hb20
              have ghO13 : ∀ g, Value.ownBlock (.slice (some ⟨b20, 0, none⟩) 0 0) = some g → w.heap.size ≤ g := fun g h => by cases h; exact gb20
              have qhO13_b1 : some b1 ≠ Value.ownBlock (.slice (some ⟨b20, 0, none⟩) 0 0) := fun e => n_b1_b20 (Option.some.inj e)
              have qhO13_b2 : some b2 ≠ Value.ownBlock (.slice (some ⟨b20, 0, none⟩) 0 0) := fun e => n_b2_b20 (Option.some.inj e)
              have qhO13_b8 : some b8 ≠ Value.ownBlock (.slice (some ⟨b20, 0, none⟩) 0 0) := fun e => n_b8_b20 (Option.some.inj e)
              have qhO13_b15 : some b15 ≠ Value.ownBlock (.slice (some ⟨b20, 0, none⟩) 0 0) := fun e => n_b15_b20 (Option.some.inj e)
              have qhO13_b19 : some b19 ≠ Value.ownBlock (.slice (some ⟨b20, 0, none⟩) 0 0) := fun e => n_b19_b20 (Option.some.inj e)
              clear hb20
              refine At.ops0 ?_
              refine At.wpcN (.cons rfl rfl rfl rfl (fun Lx => ?_) (.cons rfl rfl rfl rfl (fun Lx => ?_) .nil)) ?_
              · skip
                refine At.fieldAddr rfl fo35_0 rfl ?_
                refine At.ops0 ?_
                exact fun a ha => ⟨ha, rfl⟩
              · skip
                refine At.load rfl (Ld.ownCell ag22 hb1 (hp).c0) rfl ?_
                refine At.ops0 ?_
                exact fun a ha => ⟨ha, rfl⟩
              refine At.wpcE [3] (by kernel_rfl) (by kernel_rfl) (.cons [] rfl (by kernel_rfl) ?_ .nil)
              refine At.appendR (f := Eff.cs) rfl rfl el22 el22 sz43 by43 ze43 rfl hO13 (((hp).effsAt).keep hB) (by decide) (fun u hu => (((fun u hu => ((hp).effOk u hu).keep hB)) u hu).one) (by simp; omega) (by simp; omega) rfl (fun va11 w52 hO14 hA11 => ?_)
              replace hO14 : OwnR 43 2 Eff.cs w52 va11 p.effs := hO14
              replace hb1 := hA11.old hb1 (hO13.neT hb1 rfl)
              replace hb2 := hA11.old hb2 (hO13.neT hb2 rfl)
              replace hb8 := hA11.old hb8 (hO13.neT hb8 rfl)
              replace hb15 := hA11.old hb15 (hO13.neT hb15 rfl)
              have q_hO14_b19 : some b19 ≠ Value.ownBlock va11 := Moved.ne hA11.blk (Array.getElem?_eq_some_iff.1 hb19).1 qhO13_b19
              replace hb19 := hA11.old hb19 qhO13_b19
              have ghO14 := hA11.ge hB.size ghO13
              replace hB := hA11.below hB hB.size ghO13
              refine At.ops0 ?_
              refine At.wpcN .nil ?_
              refine At.wpcE [12] (by kernel_rfl) (by kernel_rfl) (.cons [] rfl (by kernel_rfl) ?_ .nil)
              refine At.appendR (f := Eff.cs) rfl rfl el22 el22 sz43 by43 ze43 rfl hO14 (rows_own (f := Eff.cs) (m := 1) hb19 (fun u hu => ((mem1 (Q := fun u => EffOk w52 u) (((ownEff_ok (rows_own (f := Op.cs) (m := 1) hb15 (fun u hu => ((mem1 (Q := fun u => OpOk u) (unitOp_ok op)) u hu).size) rfl (by decide)) (mem1 (Q := fun u => OpOk u) (unitOp_ok op)))).keep (Below.refl _ _))) u hu).size) rfl (by decide)) (by decide) (fun u hu => (((mem1 (Q := fun u => EffOk w52 u) (((ownEff_ok (rows_own (f := Op.cs) (m := 1) hb15 (fun u hu => ((mem1 (Q := fun u => OpOk u) (unitOp_ok op)) u hu).size) rfl (by decide)) (mem1 (Q := fun u => OpOk u) (unitOp_ok op)))).keep (Below.refl _ _)))) u hu).one) (by simp; omega) (by simp; omega) rfl (fun va12 w53 hO15 hA12 => ?_)
              replace hO15 : OwnR 43 2 Eff.cs w53 va12 (p.effs ++ [(ownEff name (.slice (some ⟨b15, 0, none⟩) 1 1) [(unitOp op)])]) := hO15
              replace hb1 := hA12.old hb1 (hO14.neT hb1 rfl)
              replace hb2 := hA12.old hb2 (hO14.neT hb2 rfl)
              replace hb8 := hA12.old hb8 (hO14.neT hb8 rfl)
              replace hb15 := hA12.old hb15 (hO14.neT hb15 rfl)
              clear hb19
              have ghO15 := hA12.ge hB.size ghO14
              replace hB := hA12.below hB hB.size ghO14
              refine At.ops0 ?_
              refine At.wpcN .nil ?_
              refine At.wpcS (i := 13) (d := 94) (.pointer (some ⟨b8, 0 + 0, none⟩)) (by kernel_rfl) rfl rfl rfl (fun Lx => ?_) ?_
              · skip
                refine At.fieldAddr rfl fo35_0 rfl ?_
                refine At.ops0 ?_
                exact fun a ha => ⟨ha, rfl⟩
              refine At.wpcE [14] (by kernel_rfl) (by kernel_rfl) (.cons [] rfl (by kernel_rfl) ?_ .nil)
              refine At.store1 rfl rfl hb8 sz22 (by rw [(hp).size]; decide) (hO15).one (fun w54 S13 => ?_)
              replace hb1 := S13.other hb1 n_b1_b8
              replace hb2 := S13.other hb2 n_b2_b8
              replace hb15 := S13.other hb15 n_b8_b15.symm
              replace hO15 := hO15.set S13 (hO15.neT hb8 rfl)
              replace hb8 : w54.heap[b8]? = some (.cells (Pr.withEffs p va12 (p.effs ++ [(ownEff name (.slice (some ⟨b15, 0, none⟩) 1 1) [(unitOp op)])])).cs 35) := S13.new
              replace hB := S13.below' hB gb8
              refine At.ops0 ?_
              refine At.wpcN .nil ?_
              refine At.wpcZ ?_
              exact At.joinedG (va12, (ownEff name (.slice (some ⟨b15, 0, none⟩) 1 1) [(unitOp op)])) (Sub.cons rfl (Sub.cons rfl (Sub.cons rfl (Sub.cons rfl (Sub.cons rfl (Sub.cons rfl (Sub.cons rfl (Sub.cons rfl (Sub.cons rfl (Sub.cons rfl (Sub.cons rfl Sub.nil))))))))))) ⟨hB, hb1, hb2, hb8, (((PrOk.withEffs ((hp).keep hB) (((OwnR.rows hO15 (fun u hu => (((all_app (Q := fun u => EffOk w54 u) (fun u hu => ((hp).effOk u hu).keep hB) (mem1 (Q := fun u => EffOk w54 u) (((ownEff_ok (rows_own (f := Op.cs) (m := 1) hb15 (fun u hu => ((mem1 (Q := fun u => OpOk u) (unitOp_ok op)) u hu).size) rfl (by decide)) (mem1 (Q := fun u => OpOk u) (unitOp_ok op)))).keep (Below.refl _ _))))) u hu).size))).keep (Below.refl _ _)) ((all_app (Q := fun u => EffOk w54 u) (fun u hu => ((hp).effOk u hu).keep hB) (mem1 (Q := fun u => EffOk w54 u) (((ownEff_ok (rows_own (f := Op.cs) (m := 1) hb15 (fun u hu => ((mem1 (Q := fun u => OpOk u) (unitOp_ok op)) u hu).size) rfl (by decide)) (mem1 (Q := fun u => OpOk u) (unitOp_ok op)))).keep (Below.refl _ _))))))).keep (Below.refl _ _)), rfl, rfl⟩
        · skip
          obtain ⟨vq, eq_⟩ := gh
          clear hB hb1 hb2 hb8
          obtain ⟨hB, hb1, hb2, hb8, hq1, hen, heo⟩ := hS
          show At _ _ [(1, .string name), (2, .string op), (3, .string con), (4, .pointer (some ⟨b1, 0, none⟩)), (9, .bool true), (12, .pointer (some ⟨b2, 0, none⟩)), (14, .bool ((findHd p.effs name).isSome)), (17, .bool ((findEff p.effs op).isSome)), (20, .bool ((findCon p.dats con).isSome)), (21, .bool (p.dats.any (datIs name))), (23, .pointer (some ⟨b8, 0, none⟩))] _ _
          refine At.thenN ?_
          refine At.seq ?_
          refine At.region ?_
          refine At.load rfl (Ld.own ag35 (sz35.trans (congrArg some (hq1).size.symm)) hb8) rfl ?_
          refine At.call en12 rfl rfl (check_any (Pr.withEffs p vq (p.effs ++ [eq_])) _ ((hq1).keep (Below.refl _ _)) (hs.withEffs.sz (by simp [effW, heo]; omega)) (Nat.le_trans (show wtT (Pr.body p) ≤ 1048576 from Nat.le_trans hs.body hc) (by decide))) (fun e w55 hR => ?_)
          obtain ⟨rfl, hbl7⟩ := hR
          refine ⟨_, rfl, ?_⟩
          replace hb1 := Below.old hbl7 hb1
          replace hb2 := Below.old hbl7 hb2
          replace hb8 := Below.old hbl7 hb8
          replace hB := Below.andThen hB hbl7
          refine At.move rfl rfl ?_
          refine At.extract rfl rfl rfl ?_
          refine At.extract rfl rfl rfl ?_
          refine At.assign rfl rfl ?_
          refine At.assign rfl rfl ?_
          refine At.ops0 ?_
          refine At.thenN ?_
          refine At.seq ?_
          refine At.region ?_
          refine At.load rfl (Ld.own ag35 (sz35.trans (congrArg some (hp).size.symm)) hb1) rfl ?_
          refine At.alloc ze35 rfl (fun b21 w56 F21 => ?_)
          have n_b1_b21 : b1 ≠ b21 := Nat.ne_of_lt (F21.lt hb1)
          have n_b2_b21 : b2 ≠ b21 := Nat.ne_of_lt (F21.lt hb2)
          have n_b8_b21 : b8 ≠ b21 := Nat.ne_of_lt (F21.lt hb8)
          have gb21 := F21.ge hB
          replace hb1 := F21.old hb1
          replace hb2 := F21.old hb2
          replace hb8 := F21.old hb8
          have hb21 : w56.heap[b21]? = some (.cells #[(.slice none 0 0), (.slice none 0 0), .int .i64 0, .int .i64 0, .string (⟨#[]⟩ : ByteArray), .string (⟨#[]⟩ : ByteArray), .int .i64 0, (.slice none 0 0), (.slice none 0 0), .int .i64 0, .string (⟨#[]⟩ : ByteArray), .int .i64 0, (.slice none 0 0), (.slice none 0 0), .int .i64 0, (.slice none 0 0), .int .i64 0, .int .i64 0, .string (⟨#[]⟩ : ByteArray), .int .i64 0, (.slice none 0 0), (.slice none 0 0), .int .i64 0] 35) := F21.new
          replace hB := F21.below' hB
          refine At.storeAll rfl rfl hb21 (sz35.trans (congrArg some (hp).size.symm)) (hp).size.symm (hp).one (fun w57 S14 => ?_)
          replace hb1 := S14.other hb1 n_b1_b21
          replace hb2 := S14.other hb2 n_b2_b21
          replace hb8 := S14.other hb8 n_b8_b21
          replace hb21 : w57.heap[b21]? = some (.cells p.cs 35) := S14.new
          replace hB := S14.below' hB gb21
          refine At.ops0 ?_
          refine At.thenN ?_
          refine At.seq ?_
          refine At.joinG (ι := Value × Dat × Cn) (fun (vq2, dq_, kq_) => [(1, .string name), (2, .string op), (3, .string con), (9, .bool true), (14, .bool ((findHd p.effs name).isSome)), (17, .bool ((findEff p.effs op).isSome)), (20, .bool ((findCon p.dats con).isSome)), (21, .bool (p.dats.any (datIs name))), (25, .int .i64 ((checkP (Pr.withEffs p vq (p.effs ++ [eq_]))).2)), (26, .pointer (some ⟨b21, 0, none⟩))]) (fun (vq2, dq_, kq_) w58 => (Below w.heap.size w w58) ∧ (w58.heap[b21]? = some (.cells (Pr.withDats p vq2 (p.dats ++ [dq_])).cs 35)) ∧ (PrOk w58 (Pr.withDats p vq2 (p.dats ++ [dq_]))) ∧ (dq_.nm = name) ∧ (dq_.cons = [kq_]) ∧ (kq_.nm = con) ∧ (kq_.fields = [unitTy])) ?_ (fun gh w58 hS => ?_)
          · skip
            refine At.drawG (n := 15) mixed (by kernel_rfl) rfl (PanicOk.norm (PanicOk.then PanicOk.body)) ?_
            have hB := Below.drewB hB
            have hb1 : _ := (show w57.drew.heap[b1]? = _ from hb1)
            have hb2 : _ := (show w57.drew.heap[b2]? = _ from hb2)
            have hb8 : _ := (show w57.drew.heap[b8]? = _ from hb8)
            have hb21 : _ := (show w57.drew.heap[b21]? = _ from hb21)
            refine At.wpcS (i := 1) (d := 102) (.pointer (some ⟨b1, 0 + 1, none⟩)) (by kernel_rfl) rfl rfl rfl (fun Lx => ?_) ?_
            · skip
              refine At.fieldAddr rfl fo35_1 rfl ?_
              refine At.ops0 ?_
              exact fun a ha => ⟨ha, rfl⟩
            refine At.wpcS (i := 2) (d := 103) (p.dv) (by kernel_rfl) rfl rfl rfl (fun Lx => ?_) ?_
            · skip
              refine At.load rfl (Ld.ownCell ag23 hb1 (hp).c1) rfl ?_
              refine At.ops0 ?_
              exact fun a ha => ⟨ha, rfl⟩
            refine At.wpcS (i := 4) (d := 105) (.string name) (by kernel_rfl) rfl rfl rfl (fun Lx => ?_) ?_
            · skip
              refine At.move rfl rfl ?_
              refine At.ops0 ?_
              exact fun a ha => ⟨ha, rfl⟩
            refine At.wpcS (i := 5) (d := 106) (.string con) (by kernel_rfl) rfl rfl rfl (fun Lx => ?_) ?_
            · skip
              refine At.move rfl rfl ?_
              refine At.ops0 ?_
              exact fun a ha => ⟨ha, rfl⟩
            refine At.wpcS (i := 6) (d := 107) (.agg #[.int .i64 3, .string (⟨#[]⟩ : ByteArray), .int .i64 0, (.slice none 0 0), (.slice none 0 0), .int .i64 0]) (by kernel_rfl) rfl rfl rfl (fun Lx => ?_) ?_
            · skip
              refine At.load rfl (Ld.own (C := #[.int .i64 3, .string (⟨#[]⟩ : ByteArray), .int .i64 0, (.slice none 0 0), (.slice none 0 0), .int .i64 0]) ag31 sz31 hb2) rfl ?_
              refine At.ops0 ?_
              exact fun a ha => ⟨ha, rfl⟩
            refine At.wpcE [0, 7] (by kernel_rfl) (by kernel_rfl) (.cons [1, 2, 4, 5, 6] rfl (by kernel_rfl) ?_ (.cons [1, 2, 4, 5] rfl (by kernel_rfl) ?_ .nil))
            · skip
              refine At.buildSlice (xs := []) rfl rfl el23 sz52 ze52 (by simp) rfl (by decide) rfl (fun b22 w59 F22 => ?_)
              have n_b1_b22 : b1 ≠ b22 := Nat.ne_of_lt (F22.lt hb1)
              have n_b2_b22 : b2 ≠ b22 := Nat.ne_of_lt (F22.lt hb2)
              have n_b8_b22 : b8 ≠ b22 := Nat.ne_of_lt (F22.lt hb8)
              have n_b21_b22 : b21 ≠ b22 := Nat.ne_of_lt (F22.lt hb21)
              have gb22 := F22.ge hB
              replace hb1 := F22.old hb1
              replace hb2 := F22.old hb2
              replace hb8 := F22.old hb8
              replace hb21 := F22.old hb21
              have hb22 : w59.heap[b22]? = some (.cells #[] 52) := F22.new
              replace hB := F22.below' hB
              have hO16 : OwnR 52 2 Dat.cs w59 (.slice (some ⟨b22, 0, none⟩) 0 0) [] := OwnR.made hb22
              have ghO16 : ∀ g, Value.ownBlock (.slice (some ⟨b22, 0, none⟩) 0 0) = some g → w.heap.size ≤ g := fun g h => by cases h; exact gb22
              have qhO16_b1 : some b1 ≠ Value.ownBlock (.slice (some ⟨b22, 0, none⟩) 0 0) := fun e => n_b1_b22 (Option.some.inj e)
              have qhO16_b2 : some b2 ≠ Value.ownBlock (.slice (some ⟨b22, 0, none⟩) 0 0) := fun e => n_b2_b22 (Option.some.inj e)
              have qhO16_b8 : some b8 ≠ Value.ownBlock (.slice (some ⟨b22, 0, none⟩) 0 0) := fun e => n_b8_b22 (Option.some.inj e)
              have qhO16_b21 : some b21 ≠ Value.ownBlock (.slice (some ⟨b22, 0, none⟩) 0 0) := fun e => n_b21_b22 (Option.some.inj e)
              clear hb22
              refine At.ops0 ?_
              refine At.wpcN (.cons rfl rfl rfl rfl (fun Lx => ?_) (.cons rfl rfl rfl rfl (fun Lx => ?_) (.cons rfl rfl rfl rfl (fun Lx => ?_) (.cons rfl rfl rfl rfl (fun Lx => ?_) (.cons rfl rfl rfl rfl (fun Lx => ?_) .nil))))) ?_
              · skip
                refine At.fieldAddr rfl fo35_1 rfl ?_
                refine At.ops0 ?_
                exact fun a ha => ⟨ha, rfl⟩
              · skip
                refine At.load rfl (Ld.ownCell ag23 hb1 (hp).c1) rfl ?_
                refine At.ops0 ?_
                exact fun a ha => ⟨ha, rfl⟩
              · skip
                refine At.move rfl rfl ?_
                refine At.ops0 ?_
                exact fun a ha => ⟨ha, rfl⟩
              · skip
                refine At.move rfl rfl ?_
                refine At.ops0 ?_
                exact fun a ha => ⟨ha, rfl⟩
              · skip
                refine At.load rfl (Ld.own (C := #[.int .i64 3, .string (⟨#[]⟩ : ByteArray), .int .i64 0, (.slice none 0 0), (.slice none 0 0), .int .i64 0]) ag31 sz31 hb2) rfl ?_
                refine At.ops0 ?_
                exact fun a ha => ⟨ha, rfl⟩
              refine At.wpcE [3, 7] (by kernel_rfl) (by kernel_rfl) (.cons [4, 5, 6] rfl (by kernel_rfl) ?_ (.cons [1, 2, 4, 5] rfl (by kernel_rfl) ?_ .nil))
              · skip
                refine At.appendR (f := Dat.cs) rfl rfl el23 el23 sz52 by52 ze52 rfl hO16 (((hp).datsAt).keep hB) (by decide) (fun u hu => (((fun u hu => ((hp).datOk u hu).keep hB)) u hu).one) (by simp; omega) (by simp; omega) rfl (fun va13 w60 hO17 hA13 => ?_)
                replace hO17 : OwnR 52 2 Dat.cs w60 va13 p.dats := hO17
                replace hb1 := hA13.old hb1 (hO16.neT hb1 rfl)
                replace hb2 := hA13.old hb2 (hO16.neT hb2 rfl)
                replace hb8 := hA13.old hb8 (hO16.neT hb8 rfl)
                replace hb21 := hA13.old hb21 (hO16.neT hb21 rfl)
                have ghO17 := hA13.ge hB.size ghO16
                replace hB := hA13.below hB hB.size ghO16
                refine At.ops0 ?_
                refine At.wpcN (.cons rfl rfl rfl rfl (fun Lx => ?_) (.cons rfl rfl rfl rfl (fun Lx => ?_) (.cons rfl rfl rfl rfl (fun Lx => ?_) .nil))) ?_
                · skip
                  refine At.move rfl rfl ?_
                  refine At.ops0 ?_
                  exact fun a ha => ⟨ha, rfl⟩
                · skip
                  refine At.move rfl rfl ?_
                  refine At.ops0 ?_
                  exact fun a ha => ⟨ha, rfl⟩
                · skip
                  refine At.load rfl (Ld.own (C := #[.int .i64 3, .string (⟨#[]⟩ : ByteArray), .int .i64 0, (.slice none 0 0), (.slice none 0 0), .int .i64 0]) ag31 sz31 hb2) rfl ?_
                  refine At.ops0 ?_
                  exact fun a ha => ⟨ha, rfl⟩
                refine At.wpcE [7] (by kernel_rfl) (by kernel_rfl) (.cons [4, 5] rfl (by kernel_rfl) ?_ .nil)
                refine At.buildSlice (xs := [.tmp 107]) rfl rfl el26 sz31 ze31 (by intro v hv; simp only [List.mem_cons, List.not_mem_nil, or_false] at hv; rcases hv with rfl <;> first | rfl | simp [Value.cells, (unitTy_ok).size]) rfl (by decide) rfl (fun b23 w61 F23 => ?_)
                have n_b1_b23 : b1 ≠ b23 := Nat.ne_of_lt (F23.lt hb1)
                have n_b2_b23 : b2 ≠ b23 := Nat.ne_of_lt (F23.lt hb2)
                have n_b8_b23 : b8 ≠ b23 := Nat.ne_of_lt (F23.lt hb8)
                have n_b21_b23 : b21 ≠ b23 := Nat.ne_of_lt (F23.lt hb21)
                have gb23 := F23.ge hB
                replace hb1 := F23.old hb1
                replace hb2 := F23.old hb2
                replace hb8 := F23.old hb8
                replace hb21 := F23.old hb21
                replace hO17 := hO17.fresh F23
                have hb23 : w61.heap[b23]? = some (.cells (([unitTy].map Ty.cs).flatMap (·.toList)).toArray 31) := F23.new
                replace hB := F23.below' hB
                refine At.ops0 ?_
                refine At.wpcN (.cons rfl rfl rfl rfl (fun Lx => ?_) (.cons rfl rfl rfl rfl (fun Lx => ?_) .nil)) ?_
                · skip
                  refine At.move rfl rfl ?_
                  refine At.ops0 ?_
                  exact fun a ha => ⟨ha, rfl⟩
                · skip
                  refine At.move rfl rfl ?_
                  refine At.ops0 ?_
                  exact fun a ha => ⟨ha, rfl⟩
                refine At.wpcS (i := 8) (d := 109) (.agg #[.string con, (.slice (some ⟨b23, 0, none⟩) 1 1)]) (by kernel_rfl) rfl rfl rfl (fun Lx => ?_) ?_
                · skip
                  refine At.build (C := #[.string con, (.slice (some ⟨b23, 0, none⟩) 1 1)]) sd54 ze54 rfl (Bld.cons fo54_0 rfl (by first | decide | exact Nat.le_of_ble_eq_true rfl) (Bld.cons fo54_1 rfl (by first | decide | exact Nat.le_of_ble_eq_true rfl) (Bld.nil _))) rfl ?_
                  refine At.ops0 ?_
                  exact fun a ha => ⟨ha, rfl⟩
                refine At.wpcE [9] (by kernel_rfl) (by kernel_rfl) (.cons [4] rfl (by kernel_rfl) ?_ .nil)
                refine At.buildSlice (xs := [.tmp 109]) rfl rfl el50 sz54 ze54 (by intro v hv; simp only [List.mem_cons, List.not_mem_nil, or_false] at hv; rcases hv with rfl <;> first | rfl | simp [Value.cells, ((ownCn_ok (rows_own (f := Ty.cs) (m := 1) hb23 (fun u hu => ((mem1 (Q := fun u => TyOk u) unitTy_ok) u hu).size) rfl (by decide)) (mem1 (Q := fun u => TyOk u) unitTy_ok))).size]) rfl (by decide) rfl (fun b24 w62 F24 => ?_)
                have n_b1_b24 : b1 ≠ b24 := Nat.ne_of_lt (F24.lt hb1)
                have n_b2_b24 : b2 ≠ b24 := Nat.ne_of_lt (F24.lt hb2)
                have n_b8_b24 : b8 ≠ b24 := Nat.ne_of_lt (F24.lt hb8)
                have n_b21_b24 : b21 ≠ b24 := Nat.ne_of_lt (F24.lt hb21)
                have n_b23_b24 : b23 ≠ b24 := Nat.ne_of_lt (F24.lt hb23)
                have gb24 := F24.ge hB
                replace hb1 := F24.old hb1
                replace hb2 := F24.old hb2
                replace hb8 := F24.old hb8
                replace hb21 := F24.old hb21
                replace hb23 := F24.old hb23
                replace hO17 := hO17.fresh F24
                have hb24 : w62.heap[b24]? = some (.cells (([(ownCn con (.slice (some ⟨b23, 0, none⟩) 1 1) [unitTy])].map Cn.cs).flatMap (·.toList)).toArray 54) := F24.new
                replace hB := F24.below' hB
                refine At.ops0 ?_
                refine At.wpcN (.cons rfl rfl rfl rfl (fun Lx => ?_) .nil) ?_
                · skip
                  refine At.move rfl rfl ?_
                  refine At.ops0 ?_
                  exact fun a ha => ⟨ha, rfl⟩
                refine At.wpcS (i := 10) (d := 111) (.agg #[.string name, (.slice (some ⟨b24, 0, none⟩) 1 1)]) (by kernel_rfl) rfl rfl rfl (fun Lx => ?_) ?_
                · skip
                  refine At.build (C := #[.string name, (.slice (some ⟨b24, 0, none⟩) 1 1)]) sd52 ze52 rfl (Bld.cons fo52_0 rfl (by first | decide | exact Nat.le_of_ble_eq_true rfl) (Bld.cons fo52_1 rfl (by first | decide | exact Nat.le_of_ble_eq_true rfl) (Bld.nil _))) rfl ?_
                  refine At.ops0 ?_
                  exact fun a ha => ⟨ha, rfl⟩
                refine At.wpcE [11] (by kernel_rfl) (by kernel_rfl) (.cons [] rfl (by kernel_rfl) ?_ .nil)
                refine At.buildSlice (xs := [.tmp 111]) rfl rfl el23 sz52 ze52 (by intro v hv; simp only [List.mem_cons, List.not_mem_nil, or_false] at hv; rcases hv with rfl <;> first | rfl | simp [Value.cells, ((ownDat_ok (rows_own (f := Cn.cs) (m := 1) hb24 (fun u hu => ((mem1 (Q := fun u => CnOk w62 u) (((ownCn_ok (rows_own (f := Ty.cs) (m := 1) hb23 (fun u hu => ((mem1 (Q := fun u => TyOk u) unitTy_ok) u hu).size) rfl (by decide)) (mem1 (Q := fun u => TyOk u) unitTy_ok))).keep (Below.refl _ _))) u hu).size) rfl (by decide)) (mem1 (Q := fun u => CnOk w62 u) (((ownCn_ok (rows_own (f := Ty.cs) (m := 1) hb23 (fun u hu => ((mem1 (Q := fun u => TyOk u) unitTy_ok) u hu).size) rfl (by decide)) (mem1 (Q := fun u => TyOk u) unitTy_ok))).keep (Below.refl _ _))))).size]) rfl (by decide) rfl (fun b25 w63 F25 => ?_)
                have q_hO17_b25 : some b25 ≠ Value.ownBlock va13 := Own.neFresh hO17 F25
                have n_b1_b25 : b1 ≠ b25 := Nat.ne_of_lt (F25.lt hb1)
                have n_b2_b25 : b2 ≠ b25 := Nat.ne_of_lt (F25.lt hb2)
                have n_b8_b25 : b8 ≠ b25 := Nat.ne_of_lt (F25.lt hb8)
                have n_b21_b25 : b21 ≠ b25 := Nat.ne_of_lt (F25.lt hb21)
                have n_b23_b25 : b23 ≠ b25 := Nat.ne_of_lt (F25.lt hb23)
                have n_b24_b25 : b24 ≠ b25 := Nat.ne_of_lt (F25.lt hb24)
                have gb25 := F25.ge hB
                replace hb1 := F25.old hb1
                replace hb2 := F25.old hb2
                replace hb8 := F25.old hb8
                replace hb21 := F25.old hb21
                replace hb23 := F25.old hb23
                replace hb24 := F25.old hb24
                replace hO17 := hO17.fresh F25
                have hb25 : w63.heap[b25]? = some (.cells (([(ownDat name (.slice (some ⟨b24, 0, none⟩) 1 1) [(ownCn con (.slice (some ⟨b23, 0, none⟩) 1 1) [unitTy])])].map Dat.cs).flatMap (·.toList)).toArray 52) := F25.new
                replace hB := F25.below' hB
                refine At.ops0 ?_
                refine At.wpcN .nil ?_
                refine At.wpcE [12] (by kernel_rfl) (by kernel_rfl) (.cons [] rfl (by kernel_rfl) ?_ .nil)
                refine At.appendR (f := Dat.cs) rfl rfl el23 el23 sz52 by52 ze52 rfl hO17 (rows_own (f := Dat.cs) (m := 1) hb25 (fun u hu => ((mem1 (Q := fun u => DatOk w63 u) (((ownDat_ok (rows_own (f := Cn.cs) (m := 1) hb24 (fun u hu => ((mem1 (Q := fun u => CnOk w63 u) (((ownCn_ok (rows_own (f := Ty.cs) (m := 1) hb23 (fun u hu => ((mem1 (Q := fun u => TyOk u) unitTy_ok) u hu).size) rfl (by decide)) (mem1 (Q := fun u => TyOk u) unitTy_ok))).keep (Below.refl _ _))) u hu).size) rfl (by decide)) (mem1 (Q := fun u => CnOk w63 u) (((ownCn_ok (rows_own (f := Ty.cs) (m := 1) hb23 (fun u hu => ((mem1 (Q := fun u => TyOk u) unitTy_ok) u hu).size) rfl (by decide)) (mem1 (Q := fun u => TyOk u) unitTy_ok))).keep (Below.refl _ _))))).keep (Below.refl _ _))) u hu).size) rfl (by decide)) (by decide) (fun u hu => (((mem1 (Q := fun u => DatOk w63 u) (((ownDat_ok (rows_own (f := Cn.cs) (m := 1) hb24 (fun u hu => ((mem1 (Q := fun u => CnOk w63 u) (((ownCn_ok (rows_own (f := Ty.cs) (m := 1) hb23 (fun u hu => ((mem1 (Q := fun u => TyOk u) unitTy_ok) u hu).size) rfl (by decide)) (mem1 (Q := fun u => TyOk u) unitTy_ok))).keep (Below.refl _ _))) u hu).size) rfl (by decide)) (mem1 (Q := fun u => CnOk w63 u) (((ownCn_ok (rows_own (f := Ty.cs) (m := 1) hb23 (fun u hu => ((mem1 (Q := fun u => TyOk u) unitTy_ok) u hu).size) rfl (by decide)) (mem1 (Q := fun u => TyOk u) unitTy_ok))).keep (Below.refl _ _))))).keep (Below.refl _ _)))) u hu).one) (by simp; omega) (by simp; omega) rfl (fun va14 w64 hO18 hA14 => ?_)
                replace hO18 : OwnR 52 2 Dat.cs w64 va14 (p.dats ++ [(ownDat name (.slice (some ⟨b24, 0, none⟩) 1 1) [(ownCn con (.slice (some ⟨b23, 0, none⟩) 1 1) [unitTy])])]) := hO18
                replace hb1 := hA14.old hb1 (hO17.neT hb1 rfl)
                replace hb2 := hA14.old hb2 (hO17.neT hb2 rfl)
                replace hb8 := hA14.old hb8 (hO17.neT hb8 rfl)
                replace hb21 := hA14.old hb21 (hO17.neT hb21 rfl)
                replace hb23 := hA14.old hb23 (hO17.neT hb23 rfl)
                replace hb24 := hA14.old hb24 (hO17.neT hb24 rfl)
                clear hb25
                have ghO18 := hA14.ge hB.size ghO17
                replace hB := hA14.below hB hB.size ghO17
                refine At.ops0 ?_
                refine At.wpcN .nil ?_
                refine At.wpcS (i := 13) (d := 114) (.pointer (some ⟨b21, 0 + 1, none⟩)) (by kernel_rfl) rfl rfl rfl (fun Lx => ?_) ?_
                · skip
                  refine At.fieldAddr rfl fo35_1 rfl ?_
                  refine At.ops0 ?_
                  exact fun a ha => ⟨ha, rfl⟩
                refine At.wpcE [14] (by kernel_rfl) (by kernel_rfl) (.cons [] rfl (by kernel_rfl) ?_ .nil)
                refine At.store1 rfl rfl hb21 sz23 (by rw [(hp).size]; decide) (hO18).one (fun w65 S15 => ?_)
                replace hb1 := S15.other hb1 n_b1_b21
                replace hb2 := S15.other hb2 n_b2_b21
                replace hb8 := S15.other hb8 n_b8_b21
                replace hb23 := S15.other hb23 n_b21_b23.symm
                replace hb24 := S15.other hb24 n_b21_b24.symm
                replace hO18 := hO18.set S15 (hO18.neT hb21 rfl)
                replace hb21 : w65.heap[b21]? = some (.cells (Pr.withDats p va14 (p.dats ++ [(ownDat name (.slice (some ⟨b24, 0, none⟩) 1 1) [(ownCn con (.slice (some ⟨b23, 0, none⟩) 1 1) [unitTy])])])).cs 35) := S15.new
                replace hB := S15.below' hB gb21
                refine At.ops0 ?_
                refine At.wpcN .nil ?_
                refine At.wpcZ ?_
                exact At.joinedG (va14, (ownDat name (.slice (some ⟨b24, 0, none⟩) 1 1) [(ownCn con (.slice (some ⟨b23, 0, none⟩) 1 1) [unitTy])]), (ownCn con (.slice (some ⟨b23, 0, none⟩) 1 1) [unitTy])) (Sub.cons rfl (Sub.cons rfl (Sub.cons rfl (Sub.cons rfl (Sub.cons rfl (Sub.cons rfl (Sub.cons rfl (Sub.cons rfl (Sub.cons rfl (Sub.cons rfl Sub.nil)))))))))) ⟨hB, hb21, (((PrOk.withDats ((hp).keep hB) (((OwnR.rows hO18 (fun u hu => (((all_app (Q := fun u => DatOk w65 u) (fun u hu => ((hp).datOk u hu).keep hB) (mem1 (Q := fun u => DatOk w65 u) (((ownDat_ok (rows_own (f := Cn.cs) (m := 1) hb24 (fun u hu => ((mem1 (Q := fun u => CnOk w65 u) (((ownCn_ok (rows_own (f := Ty.cs) (m := 1) hb23 (fun u hu => ((mem1 (Q := fun u => TyOk u) unitTy_ok) u hu).size) rfl (by decide)) (mem1 (Q := fun u => TyOk u) unitTy_ok))).keep (Below.refl _ _))) u hu).size) rfl (by decide)) (mem1 (Q := fun u => CnOk w65 u) (((ownCn_ok (rows_own (f := Ty.cs) (m := 1) hb23 (fun u hu => ((mem1 (Q := fun u => TyOk u) unitTy_ok) u hu).size) rfl (by decide)) (mem1 (Q := fun u => TyOk u) unitTy_ok))).keep (Below.refl _ _))))).keep (Below.refl _ _))))) u hu).size))).keep (Below.refl _ _)) ((all_app (Q := fun u => DatOk w65 u) (fun u hu => ((hp).datOk u hu).keep hB) (mem1 (Q := fun u => DatOk w65 u) (((ownDat_ok (rows_own (f := Cn.cs) (m := 1) hb24 (fun u hu => ((mem1 (Q := fun u => CnOk w65 u) (((ownCn_ok (rows_own (f := Ty.cs) (m := 1) hb23 (fun u hu => ((mem1 (Q := fun u => TyOk u) unitTy_ok) u hu).size) rfl (by decide)) (mem1 (Q := fun u => TyOk u) unitTy_ok))).keep (Below.refl _ _))) u hu).size) rfl (by decide)) (mem1 (Q := fun u => CnOk w65 u) (((ownCn_ok (rows_own (f := Ty.cs) (m := 1) hb23 (fun u hu => ((mem1 (Q := fun u => TyOk u) unitTy_ok) u hu).size) rfl (by decide)) (mem1 (Q := fun u => TyOk u) unitTy_ok))).keep (Below.refl _ _))))).keep (Below.refl _ _))))))).keep (Below.refl _ _)), rfl, rfl, rfl, rfl⟩
              · skip
                refine At.buildSlice (xs := [.tmp 107]) rfl rfl el26 sz31 ze31 (by intro v hv; simp only [List.mem_cons, List.not_mem_nil, or_false] at hv; rcases hv with rfl <;> first | rfl | simp [Value.cells, (unitTy_ok).size]) rfl (by decide) rfl (fun b26 w66 F26 => ?_)
                have n_b1_b26 : b1 ≠ b26 := Nat.ne_of_lt (F26.lt hb1)
                have n_b2_b26 : b2 ≠ b26 := Nat.ne_of_lt (F26.lt hb2)
                have n_b8_b26 : b8 ≠ b26 := Nat.ne_of_lt (F26.lt hb8)
                have n_b21_b26 : b21 ≠ b26 := Nat.ne_of_lt (F26.lt hb21)
                have gb26 := F26.ge hB
                replace hb1 := F26.old hb1
                replace hb2 := F26.old hb2
                replace hb8 := F26.old hb8
                replace hb21 := F26.old hb21
                replace hO16 := hO16.fresh F26
                have hb26 : w66.heap[b26]? = some (.cells (([unitTy].map Ty.cs).flatMap (·.toList)).toArray 31) := F26.new
                replace hB := F26.below' hB
                refine At.ops0 ?_
                refine At.wpcN (.cons rfl rfl rfl rfl (fun Lx => ?_) (.cons rfl rfl rfl rfl (fun Lx => ?_) (.cons rfl rfl rfl rfl (fun Lx => ?_) (.cons rfl rfl rfl rfl (fun Lx => ?_) .nil)))) ?_
                · skip
                  refine At.fieldAddr rfl fo35_1 rfl ?_
                  refine At.ops0 ?_
                  exact fun a ha => ⟨ha, rfl⟩
                · skip
                  refine At.load rfl (Ld.ownCell ag23 hb1 (hp).c1) rfl ?_
                  refine At.ops0 ?_
                  exact fun a ha => ⟨ha, rfl⟩
                · skip
                  refine At.move rfl rfl ?_
                  refine At.ops0 ?_
                  exact fun a ha => ⟨ha, rfl⟩
                · skip
                  refine At.move rfl rfl ?_
                  refine At.ops0 ?_
                  exact fun a ha => ⟨ha, rfl⟩
                refine At.wpcS (i := 8) (d := 109) (.agg #[.string con, (.slice (some ⟨b26, 0, none⟩) 1 1)]) (by kernel_rfl) rfl rfl rfl (fun Lx => ?_) ?_
                · skip
                  refine At.build (C := #[.string con, (.slice (some ⟨b26, 0, none⟩) 1 1)]) sd54 ze54 rfl (Bld.cons fo54_0 rfl (by first | decide | exact Nat.le_of_ble_eq_true rfl) (Bld.cons fo54_1 rfl (by first | decide | exact Nat.le_of_ble_eq_true rfl) (Bld.nil _))) rfl ?_
                  refine At.ops0 ?_
                  exact fun a ha => ⟨ha, rfl⟩
                refine At.wpcE [3, 9] (by kernel_rfl) (by kernel_rfl) (.cons [4, 5, 8] rfl (by kernel_rfl) ?_ (.cons [1, 2, 4] rfl (by kernel_rfl) ?_ .nil))
                · skip
                  refine At.appendR (f := Dat.cs) rfl rfl el23 el23 sz52 by52 ze52 rfl hO16 (((hp).datsAt).keep hB) (by decide) (fun u hu => (((fun u hu => ((hp).datOk u hu).keep hB)) u hu).one) (by simp; omega) (by simp; omega) rfl (fun va15 w67 hO19 hA15 => ?_)
                  replace hO19 : OwnR 52 2 Dat.cs w67 va15 p.dats := hO19
                  replace hb1 := hA15.old hb1 (hO16.neT hb1 rfl)
                  replace hb2 := hA15.old hb2 (hO16.neT hb2 rfl)
                  replace hb8 := hA15.old hb8 (hO16.neT hb8 rfl)
                  replace hb21 := hA15.old hb21 (hO16.neT hb21 rfl)
                  replace hb26 := hA15.old hb26 (hO16.neT hb26 rfl)
                  have ghO19 := hA15.ge hB.size ghO16
                  replace hB := hA15.below hB hB.size ghO16
                  refine At.ops0 ?_
                  refine At.wpcN (.cons rfl rfl rfl rfl (fun Lx => ?_) (.cons rfl rfl rfl rfl (fun Lx => ?_) (.cons rfl rfl rfl rfl (fun Lx => ?_) .nil))) ?_
                  · skip
                    refine At.move rfl rfl ?_
                    refine At.ops0 ?_
                    exact fun a ha => ⟨ha, rfl⟩
                  · skip
                    refine At.move rfl rfl ?_
                    refine At.ops0 ?_
                    exact fun a ha => ⟨ha, rfl⟩
                  · skip
                    refine At.build (C := #[.string con, (.slice (some ⟨b26, 0, none⟩) 1 1)]) sd54 ze54 rfl (Bld.cons fo54_0 rfl (by first | decide | exact Nat.le_of_ble_eq_true rfl) (Bld.cons fo54_1 rfl (by first | decide | exact Nat.le_of_ble_eq_true rfl) (Bld.nil _))) rfl ?_
                    refine At.ops0 ?_
                    exact fun a ha => ⟨ha, rfl⟩
                  refine At.wpcE [9] (by kernel_rfl) (by kernel_rfl) (.cons [4] rfl (by kernel_rfl) ?_ .nil)
                  refine At.buildSlice (xs := [.tmp 109]) rfl rfl el50 sz54 ze54 (by intro v hv; simp only [List.mem_cons, List.not_mem_nil, or_false] at hv; rcases hv with rfl <;> first | rfl | simp [Value.cells, ((ownCn_ok (rows_own (f := Ty.cs) (m := 1) hb26 (fun u hu => ((mem1 (Q := fun u => TyOk u) unitTy_ok) u hu).size) rfl (by decide)) (mem1 (Q := fun u => TyOk u) unitTy_ok))).size]) rfl (by decide) rfl (fun b27 w68 F27 => ?_)
                  have n_b1_b27 : b1 ≠ b27 := Nat.ne_of_lt (F27.lt hb1)
                  have n_b2_b27 : b2 ≠ b27 := Nat.ne_of_lt (F27.lt hb2)
                  have n_b8_b27 : b8 ≠ b27 := Nat.ne_of_lt (F27.lt hb8)
                  have n_b21_b27 : b21 ≠ b27 := Nat.ne_of_lt (F27.lt hb21)
                  have n_b26_b27 : b26 ≠ b27 := Nat.ne_of_lt (F27.lt hb26)
                  have gb27 := F27.ge hB
                  replace hb1 := F27.old hb1
                  replace hb2 := F27.old hb2
                  replace hb8 := F27.old hb8
                  replace hb21 := F27.old hb21
                  replace hb26 := F27.old hb26
                  replace hO19 := hO19.fresh F27
                  have hb27 : w68.heap[b27]? = some (.cells (([(ownCn con (.slice (some ⟨b26, 0, none⟩) 1 1) [unitTy])].map Cn.cs).flatMap (·.toList)).toArray 54) := F27.new
                  replace hB := F27.below' hB
                  refine At.ops0 ?_
                  refine At.wpcN (.cons rfl rfl rfl rfl (fun Lx => ?_) .nil) ?_
                  · skip
                    refine At.move rfl rfl ?_
                    refine At.ops0 ?_
                    exact fun a ha => ⟨ha, rfl⟩
                  refine At.wpcS (i := 10) (d := 111) (.agg #[.string name, (.slice (some ⟨b27, 0, none⟩) 1 1)]) (by kernel_rfl) rfl rfl rfl (fun Lx => ?_) ?_
                  · skip
                    refine At.build (C := #[.string name, (.slice (some ⟨b27, 0, none⟩) 1 1)]) sd52 ze52 rfl (Bld.cons fo52_0 rfl (by first | decide | exact Nat.le_of_ble_eq_true rfl) (Bld.cons fo52_1 rfl (by first | decide | exact Nat.le_of_ble_eq_true rfl) (Bld.nil _))) rfl ?_
                    refine At.ops0 ?_
                    exact fun a ha => ⟨ha, rfl⟩
                  refine At.wpcE [11] (by kernel_rfl) (by kernel_rfl) (.cons [] rfl (by kernel_rfl) ?_ .nil)
                  refine At.buildSlice (xs := [.tmp 111]) rfl rfl el23 sz52 ze52 (by intro v hv; simp only [List.mem_cons, List.not_mem_nil, or_false] at hv; rcases hv with rfl <;> first | rfl | simp [Value.cells, ((ownDat_ok (rows_own (f := Cn.cs) (m := 1) hb27 (fun u hu => ((mem1 (Q := fun u => CnOk w68 u) (((ownCn_ok (rows_own (f := Ty.cs) (m := 1) hb26 (fun u hu => ((mem1 (Q := fun u => TyOk u) unitTy_ok) u hu).size) rfl (by decide)) (mem1 (Q := fun u => TyOk u) unitTy_ok))).keep (Below.refl _ _))) u hu).size) rfl (by decide)) (mem1 (Q := fun u => CnOk w68 u) (((ownCn_ok (rows_own (f := Ty.cs) (m := 1) hb26 (fun u hu => ((mem1 (Q := fun u => TyOk u) unitTy_ok) u hu).size) rfl (by decide)) (mem1 (Q := fun u => TyOk u) unitTy_ok))).keep (Below.refl _ _))))).size]) rfl (by decide) rfl (fun b28 w69 F28 => ?_)
                  have q_hO19_b28 : some b28 ≠ Value.ownBlock va15 := Own.neFresh hO19 F28
                  have n_b1_b28 : b1 ≠ b28 := Nat.ne_of_lt (F28.lt hb1)
                  have n_b2_b28 : b2 ≠ b28 := Nat.ne_of_lt (F28.lt hb2)
                  have n_b8_b28 : b8 ≠ b28 := Nat.ne_of_lt (F28.lt hb8)
                  have n_b21_b28 : b21 ≠ b28 := Nat.ne_of_lt (F28.lt hb21)
                  have n_b26_b28 : b26 ≠ b28 := Nat.ne_of_lt (F28.lt hb26)
                  have n_b27_b28 : b27 ≠ b28 := Nat.ne_of_lt (F28.lt hb27)
                  have gb28 := F28.ge hB
                  replace hb1 := F28.old hb1
                  replace hb2 := F28.old hb2
                  replace hb8 := F28.old hb8
                  replace hb21 := F28.old hb21
                  replace hb26 := F28.old hb26
                  replace hb27 := F28.old hb27
                  replace hO19 := hO19.fresh F28
                  have hb28 : w69.heap[b28]? = some (.cells (([(ownDat name (.slice (some ⟨b27, 0, none⟩) 1 1) [(ownCn con (.slice (some ⟨b26, 0, none⟩) 1 1) [unitTy])])].map Dat.cs).flatMap (·.toList)).toArray 52) := F28.new
                  replace hB := F28.below' hB
                  refine At.ops0 ?_
                  refine At.wpcN .nil ?_
                  refine At.wpcE [12] (by kernel_rfl) (by kernel_rfl) (.cons [] rfl (by kernel_rfl) ?_ .nil)
                  refine At.appendR (f := Dat.cs) rfl rfl el23 el23 sz52 by52 ze52 rfl hO19 (rows_own (f := Dat.cs) (m := 1) hb28 (fun u hu => ((mem1 (Q := fun u => DatOk w69 u) (((ownDat_ok (rows_own (f := Cn.cs) (m := 1) hb27 (fun u hu => ((mem1 (Q := fun u => CnOk w69 u) (((ownCn_ok (rows_own (f := Ty.cs) (m := 1) hb26 (fun u hu => ((mem1 (Q := fun u => TyOk u) unitTy_ok) u hu).size) rfl (by decide)) (mem1 (Q := fun u => TyOk u) unitTy_ok))).keep (Below.refl _ _))) u hu).size) rfl (by decide)) (mem1 (Q := fun u => CnOk w69 u) (((ownCn_ok (rows_own (f := Ty.cs) (m := 1) hb26 (fun u hu => ((mem1 (Q := fun u => TyOk u) unitTy_ok) u hu).size) rfl (by decide)) (mem1 (Q := fun u => TyOk u) unitTy_ok))).keep (Below.refl _ _))))).keep (Below.refl _ _))) u hu).size) rfl (by decide)) (by decide) (fun u hu => (((mem1 (Q := fun u => DatOk w69 u) (((ownDat_ok (rows_own (f := Cn.cs) (m := 1) hb27 (fun u hu => ((mem1 (Q := fun u => CnOk w69 u) (((ownCn_ok (rows_own (f := Ty.cs) (m := 1) hb26 (fun u hu => ((mem1 (Q := fun u => TyOk u) unitTy_ok) u hu).size) rfl (by decide)) (mem1 (Q := fun u => TyOk u) unitTy_ok))).keep (Below.refl _ _))) u hu).size) rfl (by decide)) (mem1 (Q := fun u => CnOk w69 u) (((ownCn_ok (rows_own (f := Ty.cs) (m := 1) hb26 (fun u hu => ((mem1 (Q := fun u => TyOk u) unitTy_ok) u hu).size) rfl (by decide)) (mem1 (Q := fun u => TyOk u) unitTy_ok))).keep (Below.refl _ _))))).keep (Below.refl _ _)))) u hu).one) (by simp; omega) (by simp; omega) rfl (fun va16 w70 hO20 hA16 => ?_)
                  replace hO20 : OwnR 52 2 Dat.cs w70 va16 (p.dats ++ [(ownDat name (.slice (some ⟨b27, 0, none⟩) 1 1) [(ownCn con (.slice (some ⟨b26, 0, none⟩) 1 1) [unitTy])])]) := hO20
                  replace hb1 := hA16.old hb1 (hO19.neT hb1 rfl)
                  replace hb2 := hA16.old hb2 (hO19.neT hb2 rfl)
                  replace hb8 := hA16.old hb8 (hO19.neT hb8 rfl)
                  replace hb21 := hA16.old hb21 (hO19.neT hb21 rfl)
                  replace hb26 := hA16.old hb26 (hO19.neT hb26 rfl)
                  replace hb27 := hA16.old hb27 (hO19.neT hb27 rfl)
                  clear hb28
                  have ghO20 := hA16.ge hB.size ghO19
                  replace hB := hA16.below hB hB.size ghO19
                  refine At.ops0 ?_
                  refine At.wpcN .nil ?_
                  refine At.wpcS (i := 13) (d := 114) (.pointer (some ⟨b21, 0 + 1, none⟩)) (by kernel_rfl) rfl rfl rfl (fun Lx => ?_) ?_
                  · skip
                    refine At.fieldAddr rfl fo35_1 rfl ?_
                    refine At.ops0 ?_
                    exact fun a ha => ⟨ha, rfl⟩
                  refine At.wpcE [14] (by kernel_rfl) (by kernel_rfl) (.cons [] rfl (by kernel_rfl) ?_ .nil)
                  refine At.store1 rfl rfl hb21 sz23 (by rw [(hp).size]; decide) (hO20).one (fun w71 S16 => ?_)
                  replace hb1 := S16.other hb1 n_b1_b21
                  replace hb2 := S16.other hb2 n_b2_b21
                  replace hb8 := S16.other hb8 n_b8_b21
                  replace hb26 := S16.other hb26 n_b21_b26.symm
                  replace hb27 := S16.other hb27 n_b21_b27.symm
                  replace hO20 := hO20.set S16 (hO20.neT hb21 rfl)
                  replace hb21 : w71.heap[b21]? = some (.cells (Pr.withDats p va16 (p.dats ++ [(ownDat name (.slice (some ⟨b27, 0, none⟩) 1 1) [(ownCn con (.slice (some ⟨b26, 0, none⟩) 1 1) [unitTy])])])).cs 35) := S16.new
                  replace hB := S16.below' hB gb21
                  refine At.ops0 ?_
                  refine At.wpcN .nil ?_
                  refine At.wpcZ ?_
                  exact At.joinedG (va16, (ownDat name (.slice (some ⟨b27, 0, none⟩) 1 1) [(ownCn con (.slice (some ⟨b26, 0, none⟩) 1 1) [unitTy])]), (ownCn con (.slice (some ⟨b26, 0, none⟩) 1 1) [unitTy])) (Sub.cons rfl (Sub.cons rfl (Sub.cons rfl (Sub.cons rfl (Sub.cons rfl (Sub.cons rfl (Sub.cons rfl (Sub.cons rfl (Sub.cons rfl (Sub.cons rfl Sub.nil)))))))))) ⟨hB, hb21, (((PrOk.withDats ((hp).keep hB) (((OwnR.rows hO20 (fun u hu => (((all_app (Q := fun u => DatOk w71 u) (fun u hu => ((hp).datOk u hu).keep hB) (mem1 (Q := fun u => DatOk w71 u) (((ownDat_ok (rows_own (f := Cn.cs) (m := 1) hb27 (fun u hu => ((mem1 (Q := fun u => CnOk w71 u) (((ownCn_ok (rows_own (f := Ty.cs) (m := 1) hb26 (fun u hu => ((mem1 (Q := fun u => TyOk u) unitTy_ok) u hu).size) rfl (by decide)) (mem1 (Q := fun u => TyOk u) unitTy_ok))).keep (Below.refl _ _))) u hu).size) rfl (by decide)) (mem1 (Q := fun u => CnOk w71 u) (((ownCn_ok (rows_own (f := Ty.cs) (m := 1) hb26 (fun u hu => ((mem1 (Q := fun u => TyOk u) unitTy_ok) u hu).size) rfl (by decide)) (mem1 (Q := fun u => TyOk u) unitTy_ok))).keep (Below.refl _ _))))).keep (Below.refl _ _))))) u hu).size))).keep (Below.refl _ _)) ((all_app (Q := fun u => DatOk w71 u) (fun u hu => ((hp).datOk u hu).keep hB) (mem1 (Q := fun u => DatOk w71 u) (((ownDat_ok (rows_own (f := Cn.cs) (m := 1) hb27 (fun u hu => ((mem1 (Q := fun u => CnOk w71 u) (((ownCn_ok (rows_own (f := Ty.cs) (m := 1) hb26 (fun u hu => ((mem1 (Q := fun u => TyOk u) unitTy_ok) u hu).size) rfl (by decide)) (mem1 (Q := fun u => TyOk u) unitTy_ok))).keep (Below.refl _ _))) u hu).size) rfl (by decide)) (mem1 (Q := fun u => CnOk w71 u) (((ownCn_ok (rows_own (f := Ty.cs) (m := 1) hb26 (fun u hu => ((mem1 (Q := fun u => TyOk u) unitTy_ok) u hu).size) rfl (by decide)) (mem1 (Q := fun u => TyOk u) unitTy_ok))).keep (Below.refl _ _))))).keep (Below.refl _ _))))))).keep (Below.refl _ _)), rfl, rfl, rfl, rfl⟩
                · skip
                  refine At.buildSlice (xs := [.tmp 109]) rfl rfl el50 sz54 ze54 (by intro v hv; simp only [List.mem_cons, List.not_mem_nil, or_false] at hv; rcases hv with rfl <;> first | rfl | simp [Value.cells, ((ownCn_ok (rows_own (f := Ty.cs) (m := 1) hb26 (fun u hu => ((mem1 (Q := fun u => TyOk u) unitTy_ok) u hu).size) rfl (by decide)) (mem1 (Q := fun u => TyOk u) unitTy_ok))).size]) rfl (by decide) rfl (fun b29 w72 F29 => ?_)
                  have n_b1_b29 : b1 ≠ b29 := Nat.ne_of_lt (F29.lt hb1)
                  have n_b2_b29 : b2 ≠ b29 := Nat.ne_of_lt (F29.lt hb2)
                  have n_b8_b29 : b8 ≠ b29 := Nat.ne_of_lt (F29.lt hb8)
                  have n_b21_b29 : b21 ≠ b29 := Nat.ne_of_lt (F29.lt hb21)
                  have n_b26_b29 : b26 ≠ b29 := Nat.ne_of_lt (F29.lt hb26)
                  have gb29 := F29.ge hB
                  replace hb1 := F29.old hb1
                  replace hb2 := F29.old hb2
                  replace hb8 := F29.old hb8
                  replace hb21 := F29.old hb21
                  replace hb26 := F29.old hb26
                  replace hO16 := hO16.fresh F29
                  have hb29 : w72.heap[b29]? = some (.cells (([(ownCn con (.slice (some ⟨b26, 0, none⟩) 1 1) [unitTy])].map Cn.cs).flatMap (·.toList)).toArray 54) := F29.new
                  replace hB := F29.below' hB
                  refine At.ops0 ?_
                  refine At.wpcN (.cons rfl rfl rfl rfl (fun Lx => ?_) (.cons rfl rfl rfl rfl (fun Lx => ?_) (.cons rfl rfl rfl rfl (fun Lx => ?_) .nil))) ?_
                  · skip
                    refine At.fieldAddr rfl fo35_1 rfl ?_
                    refine At.ops0 ?_
                    exact fun a ha => ⟨ha, rfl⟩
                  · skip
                    refine At.load rfl (Ld.ownCell ag23 hb1 (hp).c1) rfl ?_
                    refine At.ops0 ?_
                    exact fun a ha => ⟨ha, rfl⟩
                  · skip
                    refine At.move rfl rfl ?_
                    refine At.ops0 ?_
                    exact fun a ha => ⟨ha, rfl⟩
                  refine At.wpcS (i := 10) (d := 111) (.agg #[.string name, (.slice (some ⟨b29, 0, none⟩) 1 1)]) (by kernel_rfl) rfl rfl rfl (fun Lx => ?_) ?_
                  · skip
                    refine At.build (C := #[.string name, (.slice (some ⟨b29, 0, none⟩) 1 1)]) sd52 ze52 rfl (Bld.cons fo52_0 rfl (by first | decide | exact Nat.le_of_ble_eq_true rfl) (Bld.cons fo52_1 rfl (by first | decide | exact Nat.le_of_ble_eq_true rfl) (Bld.nil _))) rfl ?_
                    refine At.ops0 ?_
                    exact fun a ha => ⟨ha, rfl⟩
                  refine At.wpcE [3, 11] (by kernel_rfl) (by kernel_rfl) (.cons [4, 10] rfl (by kernel_rfl) ?_ (.cons [1, 2] rfl (by kernel_rfl) ?_ .nil))
                  · skip
                    refine At.appendR (f := Dat.cs) rfl rfl el23 el23 sz52 by52 ze52 rfl hO16 (((hp).datsAt).keep hB) (by decide) (fun u hu => (((fun u hu => ((hp).datOk u hu).keep hB)) u hu).one) (by simp; omega) (by simp; omega) rfl (fun va17 w73 hO21 hA17 => ?_)
                    replace hO21 : OwnR 52 2 Dat.cs w73 va17 p.dats := hO21
                    replace hb1 := hA17.old hb1 (hO16.neT hb1 rfl)
                    replace hb2 := hA17.old hb2 (hO16.neT hb2 rfl)
                    replace hb8 := hA17.old hb8 (hO16.neT hb8 rfl)
                    replace hb21 := hA17.old hb21 (hO16.neT hb21 rfl)
                    replace hb26 := hA17.old hb26 (hO16.neT hb26 rfl)
                    replace hb29 := hA17.old hb29 (hO16.neT hb29 rfl)
                    have ghO21 := hA17.ge hB.size ghO16
                    replace hB := hA17.below hB hB.size ghO16
                    refine At.ops0 ?_
                    refine At.wpcN (.cons rfl rfl rfl rfl (fun Lx => ?_) (.cons rfl rfl rfl rfl (fun Lx => ?_) .nil)) ?_
                    · skip
                      refine At.move rfl rfl ?_
                      refine At.ops0 ?_
                      exact fun a ha => ⟨ha, rfl⟩
                    · skip
                      refine At.build (C := #[.string name, (.slice (some ⟨b29, 0, none⟩) 1 1)]) sd52 ze52 rfl (Bld.cons fo52_0 rfl (by first | decide | exact Nat.le_of_ble_eq_true rfl) (Bld.cons fo52_1 rfl (by first | decide | exact Nat.le_of_ble_eq_true rfl) (Bld.nil _))) rfl ?_
                      refine At.ops0 ?_
                      exact fun a ha => ⟨ha, rfl⟩
                    refine At.wpcE [11] (by kernel_rfl) (by kernel_rfl) (.cons [] rfl (by kernel_rfl) ?_ .nil)
                    refine At.buildSlice (xs := [.tmp 111]) rfl rfl el23 sz52 ze52 (by intro v hv; simp only [List.mem_cons, List.not_mem_nil, or_false] at hv; rcases hv with rfl <;> first | rfl | simp [Value.cells, ((ownDat_ok (rows_own (f := Cn.cs) (m := 1) hb29 (fun u hu => ((mem1 (Q := fun u => CnOk w73 u) (((ownCn_ok (rows_own (f := Ty.cs) (m := 1) hb26 (fun u hu => ((mem1 (Q := fun u => TyOk u) unitTy_ok) u hu).size) rfl (by decide)) (mem1 (Q := fun u => TyOk u) unitTy_ok))).keep (Below.refl _ _))) u hu).size) rfl (by decide)) (mem1 (Q := fun u => CnOk w73 u) (((ownCn_ok (rows_own (f := Ty.cs) (m := 1) hb26 (fun u hu => ((mem1 (Q := fun u => TyOk u) unitTy_ok) u hu).size) rfl (by decide)) (mem1 (Q := fun u => TyOk u) unitTy_ok))).keep (Below.refl _ _))))).size]) rfl (by decide) rfl (fun b30 w74 F30 => ?_)
                    have q_hO21_b30 : some b30 ≠ Value.ownBlock va17 := Own.neFresh hO21 F30
                    have n_b1_b30 : b1 ≠ b30 := Nat.ne_of_lt (F30.lt hb1)
                    have n_b2_b30 : b2 ≠ b30 := Nat.ne_of_lt (F30.lt hb2)
                    have n_b8_b30 : b8 ≠ b30 := Nat.ne_of_lt (F30.lt hb8)
                    have n_b21_b30 : b21 ≠ b30 := Nat.ne_of_lt (F30.lt hb21)
                    have n_b26_b30 : b26 ≠ b30 := Nat.ne_of_lt (F30.lt hb26)
                    have n_b29_b30 : b29 ≠ b30 := Nat.ne_of_lt (F30.lt hb29)
                    have gb30 := F30.ge hB
                    replace hb1 := F30.old hb1
                    replace hb2 := F30.old hb2
                    replace hb8 := F30.old hb8
                    replace hb21 := F30.old hb21
                    replace hb26 := F30.old hb26
                    replace hb29 := F30.old hb29
                    replace hO21 := hO21.fresh F30
                    have hb30 : w74.heap[b30]? = some (.cells (([(ownDat name (.slice (some ⟨b29, 0, none⟩) 1 1) [(ownCn con (.slice (some ⟨b26, 0, none⟩) 1 1) [unitTy])])].map Dat.cs).flatMap (·.toList)).toArray 52) := F30.new
                    replace hB := F30.below' hB
                    refine At.ops0 ?_
                    refine At.wpcN .nil ?_
                    refine At.wpcE [12] (by kernel_rfl) (by kernel_rfl) (.cons [] rfl (by kernel_rfl) ?_ .nil)
                    refine At.appendR (f := Dat.cs) rfl rfl el23 el23 sz52 by52 ze52 rfl hO21 (rows_own (f := Dat.cs) (m := 1) hb30 (fun u hu => ((mem1 (Q := fun u => DatOk w74 u) (((ownDat_ok (rows_own (f := Cn.cs) (m := 1) hb29 (fun u hu => ((mem1 (Q := fun u => CnOk w74 u) (((ownCn_ok (rows_own (f := Ty.cs) (m := 1) hb26 (fun u hu => ((mem1 (Q := fun u => TyOk u) unitTy_ok) u hu).size) rfl (by decide)) (mem1 (Q := fun u => TyOk u) unitTy_ok))).keep (Below.refl _ _))) u hu).size) rfl (by decide)) (mem1 (Q := fun u => CnOk w74 u) (((ownCn_ok (rows_own (f := Ty.cs) (m := 1) hb26 (fun u hu => ((mem1 (Q := fun u => TyOk u) unitTy_ok) u hu).size) rfl (by decide)) (mem1 (Q := fun u => TyOk u) unitTy_ok))).keep (Below.refl _ _))))).keep (Below.refl _ _))) u hu).size) rfl (by decide)) (by decide) (fun u hu => (((mem1 (Q := fun u => DatOk w74 u) (((ownDat_ok (rows_own (f := Cn.cs) (m := 1) hb29 (fun u hu => ((mem1 (Q := fun u => CnOk w74 u) (((ownCn_ok (rows_own (f := Ty.cs) (m := 1) hb26 (fun u hu => ((mem1 (Q := fun u => TyOk u) unitTy_ok) u hu).size) rfl (by decide)) (mem1 (Q := fun u => TyOk u) unitTy_ok))).keep (Below.refl _ _))) u hu).size) rfl (by decide)) (mem1 (Q := fun u => CnOk w74 u) (((ownCn_ok (rows_own (f := Ty.cs) (m := 1) hb26 (fun u hu => ((mem1 (Q := fun u => TyOk u) unitTy_ok) u hu).size) rfl (by decide)) (mem1 (Q := fun u => TyOk u) unitTy_ok))).keep (Below.refl _ _))))).keep (Below.refl _ _)))) u hu).one) (by simp; omega) (by simp; omega) rfl (fun va18 w75 hO22 hA18 => ?_)
                    replace hO22 : OwnR 52 2 Dat.cs w75 va18 (p.dats ++ [(ownDat name (.slice (some ⟨b29, 0, none⟩) 1 1) [(ownCn con (.slice (some ⟨b26, 0, none⟩) 1 1) [unitTy])])]) := hO22
                    replace hb1 := hA18.old hb1 (hO21.neT hb1 rfl)
                    replace hb2 := hA18.old hb2 (hO21.neT hb2 rfl)
                    replace hb8 := hA18.old hb8 (hO21.neT hb8 rfl)
                    replace hb21 := hA18.old hb21 (hO21.neT hb21 rfl)
                    replace hb26 := hA18.old hb26 (hO21.neT hb26 rfl)
                    replace hb29 := hA18.old hb29 (hO21.neT hb29 rfl)
                    clear hb30
                    have ghO22 := hA18.ge hB.size ghO21
                    replace hB := hA18.below hB hB.size ghO21
                    refine At.ops0 ?_
                    refine At.wpcN .nil ?_
                    refine At.wpcS (i := 13) (d := 114) (.pointer (some ⟨b21, 0 + 1, none⟩)) (by kernel_rfl) rfl rfl rfl (fun Lx => ?_) ?_
                    · skip
                      refine At.fieldAddr rfl fo35_1 rfl ?_
                      refine At.ops0 ?_
                      exact fun a ha => ⟨ha, rfl⟩
                    refine At.wpcE [14] (by kernel_rfl) (by kernel_rfl) (.cons [] rfl (by kernel_rfl) ?_ .nil)
                    refine At.store1 rfl rfl hb21 sz23 (by rw [(hp).size]; decide) (hO22).one (fun w76 S17 => ?_)
                    replace hb1 := S17.other hb1 n_b1_b21
                    replace hb2 := S17.other hb2 n_b2_b21
                    replace hb8 := S17.other hb8 n_b8_b21
                    replace hb26 := S17.other hb26 n_b21_b26.symm
                    replace hb29 := S17.other hb29 n_b21_b29.symm
                    replace hO22 := hO22.set S17 (hO22.neT hb21 rfl)
                    replace hb21 : w76.heap[b21]? = some (.cells (Pr.withDats p va18 (p.dats ++ [(ownDat name (.slice (some ⟨b29, 0, none⟩) 1 1) [(ownCn con (.slice (some ⟨b26, 0, none⟩) 1 1) [unitTy])])])).cs 35) := S17.new
                    replace hB := S17.below' hB gb21
                    refine At.ops0 ?_
                    refine At.wpcN .nil ?_
                    refine At.wpcZ ?_
                    exact At.joinedG (va18, (ownDat name (.slice (some ⟨b29, 0, none⟩) 1 1) [(ownCn con (.slice (some ⟨b26, 0, none⟩) 1 1) [unitTy])]), (ownCn con (.slice (some ⟨b26, 0, none⟩) 1 1) [unitTy])) (Sub.cons rfl (Sub.cons rfl (Sub.cons rfl (Sub.cons rfl (Sub.cons rfl (Sub.cons rfl (Sub.cons rfl (Sub.cons rfl (Sub.cons rfl (Sub.cons rfl Sub.nil)))))))))) ⟨hB, hb21, (((PrOk.withDats ((hp).keep hB) (((OwnR.rows hO22 (fun u hu => (((all_app (Q := fun u => DatOk w76 u) (fun u hu => ((hp).datOk u hu).keep hB) (mem1 (Q := fun u => DatOk w76 u) (((ownDat_ok (rows_own (f := Cn.cs) (m := 1) hb29 (fun u hu => ((mem1 (Q := fun u => CnOk w76 u) (((ownCn_ok (rows_own (f := Ty.cs) (m := 1) hb26 (fun u hu => ((mem1 (Q := fun u => TyOk u) unitTy_ok) u hu).size) rfl (by decide)) (mem1 (Q := fun u => TyOk u) unitTy_ok))).keep (Below.refl _ _))) u hu).size) rfl (by decide)) (mem1 (Q := fun u => CnOk w76 u) (((ownCn_ok (rows_own (f := Ty.cs) (m := 1) hb26 (fun u hu => ((mem1 (Q := fun u => TyOk u) unitTy_ok) u hu).size) rfl (by decide)) (mem1 (Q := fun u => TyOk u) unitTy_ok))).keep (Below.refl _ _))))).keep (Below.refl _ _))))) u hu).size))).keep (Below.refl _ _)) ((all_app (Q := fun u => DatOk w76 u) (fun u hu => ((hp).datOk u hu).keep hB) (mem1 (Q := fun u => DatOk w76 u) (((ownDat_ok (rows_own (f := Cn.cs) (m := 1) hb29 (fun u hu => ((mem1 (Q := fun u => CnOk w76 u) (((ownCn_ok (rows_own (f := Ty.cs) (m := 1) hb26 (fun u hu => ((mem1 (Q := fun u => TyOk u) unitTy_ok) u hu).size) rfl (by decide)) (mem1 (Q := fun u => TyOk u) unitTy_ok))).keep (Below.refl _ _))) u hu).size) rfl (by decide)) (mem1 (Q := fun u => CnOk w76 u) (((ownCn_ok (rows_own (f := Ty.cs) (m := 1) hb26 (fun u hu => ((mem1 (Q := fun u => TyOk u) unitTy_ok) u hu).size) rfl (by decide)) (mem1 (Q := fun u => TyOk u) unitTy_ok))).keep (Below.refl _ _))))).keep (Below.refl _ _))))))).keep (Below.refl _ _)), rfl, rfl, rfl, rfl⟩
                  · skip
                    refine At.buildSlice (xs := [.tmp 111]) rfl rfl el23 sz52 ze52 (by intro v hv; simp only [List.mem_cons, List.not_mem_nil, or_false] at hv; rcases hv with rfl <;> first | rfl | simp [Value.cells, ((ownDat_ok (rows_own (f := Cn.cs) (m := 1) hb29 (fun u hu => ((mem1 (Q := fun u => CnOk w72 u) (((ownCn_ok (rows_own (f := Ty.cs) (m := 1) hb26 (fun u hu => ((mem1 (Q := fun u => TyOk u) unitTy_ok) u hu).size) rfl (by decide)) (mem1 (Q := fun u => TyOk u) unitTy_ok))).keep (Below.refl _ _))) u hu).size) rfl (by decide)) (mem1 (Q := fun u => CnOk w72 u) (((ownCn_ok (rows_own (f := Ty.cs) (m := 1) hb26 (fun u hu => ((mem1 (Q := fun u => TyOk u) unitTy_ok) u hu).size) rfl (by decide)) (mem1 (Q := fun u => TyOk u) unitTy_ok))).keep (Below.refl _ _))))).size]) rfl (by decide) rfl (fun b31 w77 F31 => ?_)
                    have q_hO16_b31 : some b31 ≠ Value.ownBlock (.slice (some ⟨b22, 0, none⟩) 0 0) := Own.neFresh hO16 F31
                    have n_b1_b31 : b1 ≠ b31 := Nat.ne_of_lt (F31.lt hb1)
                    have n_b2_b31 : b2 ≠ b31 := Nat.ne_of_lt (F31.lt hb2)
                    have n_b8_b31 : b8 ≠ b31 := Nat.ne_of_lt (F31.lt hb8)
                    have n_b21_b31 : b21 ≠ b31 := Nat.ne_of_lt (F31.lt hb21)
                    have n_b26_b31 : b26 ≠ b31 := Nat.ne_of_lt (F31.lt hb26)
                    have n_b29_b31 : b29 ≠ b31 := Nat.ne_of_lt (F31.lt hb29)
                    have gb31 := F31.ge hB
                    replace hb1 := F31.old hb1
                    replace hb2 := F31.old hb2
                    replace hb8 := F31.old hb8
                    replace hb21 := F31.old hb21
                    replace hb26 := F31.old hb26
                    replace hb29 := F31.old hb29
                    replace hO16 := hO16.fresh F31
                    have hb31 : w77.heap[b31]? = some (.cells (([(ownDat name (.slice (some ⟨b29, 0, none⟩) 1 1) [(ownCn con (.slice (some ⟨b26, 0, none⟩) 1 1) [unitTy])])].map Dat.cs).flatMap (·.toList)).toArray 52) := F31.new
                    replace hB := F31.below' hB
                    refine At.ops0 ?_
                    refine At.wpcN (.cons rfl rfl rfl rfl (fun Lx => ?_) (.cons rfl rfl rfl rfl (fun Lx => ?_) .nil)) ?_
                    · skip
                      refine At.fieldAddr rfl fo35_1 rfl ?_
                      refine At.ops0 ?_
                      exact fun a ha => ⟨ha, rfl⟩
                    · skip
                      refine At.load rfl (Ld.ownCell ag23 hb1 (hp).c1) rfl ?_
                      refine At.ops0 ?_
                      exact fun a ha => ⟨ha, rfl⟩
                    refine At.wpcE [3] (by kernel_rfl) (by kernel_rfl) (.cons [] rfl (by kernel_rfl) ?_ .nil)
                    refine At.appendR (f := Dat.cs) rfl rfl el23 el23 sz52 by52 ze52 rfl hO16 (((hp).datsAt).keep hB) (by decide) (fun u hu => (((fun u hu => ((hp).datOk u hu).keep hB)) u hu).one) (by simp; omega) (by simp; omega) rfl (fun va19 w78 hO23 hA19 => ?_)
                    replace hO23 : OwnR 52 2 Dat.cs w78 va19 p.dats := hO23
                    replace hb1 := hA19.old hb1 (hO16.neT hb1 rfl)
                    replace hb2 := hA19.old hb2 (hO16.neT hb2 rfl)
                    replace hb8 := hA19.old hb8 (hO16.neT hb8 rfl)
                    replace hb21 := hA19.old hb21 (hO16.neT hb21 rfl)
                    replace hb26 := hA19.old hb26 (hO16.neT hb26 rfl)
                    replace hb29 := hA19.old hb29 (hO16.neT hb29 rfl)
                    have q_hO23_b31 : some b31 ≠ Value.ownBlock va19 := Moved.ne hA19.blk (Array.getElem?_eq_some_iff.1 hb31).1 q_hO16_b31
                    replace hb31 := hA19.old hb31 q_hO16_b31
                    have ghO23 := hA19.ge hB.size ghO16
                    replace hB := hA19.below hB hB.size ghO16
                    refine At.ops0 ?_
                    refine At.wpcN .nil ?_
                    refine At.wpcE [12] (by kernel_rfl) (by kernel_rfl) (.cons [] rfl (by kernel_rfl) ?_ .nil)
                    refine At.appendR (f := Dat.cs) rfl rfl el23 el23 sz52 by52 ze52 rfl hO23 (rows_own (f := Dat.cs) (m := 1) hb31 (fun u hu => ((mem1 (Q := fun u => DatOk w78 u) (((ownDat_ok (rows_own (f := Cn.cs) (m := 1) hb29 (fun u hu => ((mem1 (Q := fun u => CnOk w78 u) (((ownCn_ok (rows_own (f := Ty.cs) (m := 1) hb26 (fun u hu => ((mem1 (Q := fun u => TyOk u) unitTy_ok) u hu).size) rfl (by decide)) (mem1 (Q := fun u => TyOk u) unitTy_ok))).keep (Below.refl _ _))) u hu).size) rfl (by decide)) (mem1 (Q := fun u => CnOk w78 u) (((ownCn_ok (rows_own (f := Ty.cs) (m := 1) hb26 (fun u hu => ((mem1 (Q := fun u => TyOk u) unitTy_ok) u hu).size) rfl (by decide)) (mem1 (Q := fun u => TyOk u) unitTy_ok))).keep (Below.refl _ _))))).keep (Below.refl _ _))) u hu).size) rfl (by decide)) (by decide) (fun u hu => (((mem1 (Q := fun u => DatOk w78 u) (((ownDat_ok (rows_own (f := Cn.cs) (m := 1) hb29 (fun u hu => ((mem1 (Q := fun u => CnOk w78 u) (((ownCn_ok (rows_own (f := Ty.cs) (m := 1) hb26 (fun u hu => ((mem1 (Q := fun u => TyOk u) unitTy_ok) u hu).size) rfl (by decide)) (mem1 (Q := fun u => TyOk u) unitTy_ok))).keep (Below.refl _ _))) u hu).size) rfl (by decide)) (mem1 (Q := fun u => CnOk w78 u) (((ownCn_ok (rows_own (f := Ty.cs) (m := 1) hb26 (fun u hu => ((mem1 (Q := fun u => TyOk u) unitTy_ok) u hu).size) rfl (by decide)) (mem1 (Q := fun u => TyOk u) unitTy_ok))).keep (Below.refl _ _))))).keep (Below.refl _ _)))) u hu).one) (by simp; omega) (by simp; omega) rfl (fun va20 w79 hO24 hA20 => ?_)
                    replace hO24 : OwnR 52 2 Dat.cs w79 va20 (p.dats ++ [(ownDat name (.slice (some ⟨b29, 0, none⟩) 1 1) [(ownCn con (.slice (some ⟨b26, 0, none⟩) 1 1) [unitTy])])]) := hO24
                    replace hb1 := hA20.old hb1 (hO23.neT hb1 rfl)
                    replace hb2 := hA20.old hb2 (hO23.neT hb2 rfl)
                    replace hb8 := hA20.old hb8 (hO23.neT hb8 rfl)
                    replace hb21 := hA20.old hb21 (hO23.neT hb21 rfl)
                    replace hb26 := hA20.old hb26 (hO23.neT hb26 rfl)
                    replace hb29 := hA20.old hb29 (hO23.neT hb29 rfl)
                    clear hb31
                    have ghO24 := hA20.ge hB.size ghO23
                    replace hB := hA20.below hB hB.size ghO23
                    refine At.ops0 ?_
                    refine At.wpcN .nil ?_
                    refine At.wpcS (i := 13) (d := 114) (.pointer (some ⟨b21, 0 + 1, none⟩)) (by kernel_rfl) rfl rfl rfl (fun Lx => ?_) ?_
                    · skip
                      refine At.fieldAddr rfl fo35_1 rfl ?_
                      refine At.ops0 ?_
                      exact fun a ha => ⟨ha, rfl⟩
                    refine At.wpcE [14] (by kernel_rfl) (by kernel_rfl) (.cons [] rfl (by kernel_rfl) ?_ .nil)
                    refine At.store1 rfl rfl hb21 sz23 (by rw [(hp).size]; decide) (hO24).one (fun w80 S18 => ?_)
                    replace hb1 := S18.other hb1 n_b1_b21
                    replace hb2 := S18.other hb2 n_b2_b21
                    replace hb8 := S18.other hb8 n_b8_b21
                    replace hb26 := S18.other hb26 n_b21_b26.symm
                    replace hb29 := S18.other hb29 n_b21_b29.symm
                    replace hO24 := hO24.set S18 (hO24.neT hb21 rfl)
                    replace hb21 : w80.heap[b21]? = some (.cells (Pr.withDats p va20 (p.dats ++ [(ownDat name (.slice (some ⟨b29, 0, none⟩) 1 1) [(ownCn con (.slice (some ⟨b26, 0, none⟩) 1 1) [unitTy])])])).cs 35) := S18.new
                    replace hB := S18.below' hB gb21
                    refine At.ops0 ?_
                    refine At.wpcN .nil ?_
                    refine At.wpcZ ?_
                    exact At.joinedG (va20, (ownDat name (.slice (some ⟨b29, 0, none⟩) 1 1) [(ownCn con (.slice (some ⟨b26, 0, none⟩) 1 1) [unitTy])]), (ownCn con (.slice (some ⟨b26, 0, none⟩) 1 1) [unitTy])) (Sub.cons rfl (Sub.cons rfl (Sub.cons rfl (Sub.cons rfl (Sub.cons rfl (Sub.cons rfl (Sub.cons rfl (Sub.cons rfl (Sub.cons rfl (Sub.cons rfl Sub.nil)))))))))) ⟨hB, hb21, (((PrOk.withDats ((hp).keep hB) (((OwnR.rows hO24 (fun u hu => (((all_app (Q := fun u => DatOk w80 u) (fun u hu => ((hp).datOk u hu).keep hB) (mem1 (Q := fun u => DatOk w80 u) (((ownDat_ok (rows_own (f := Cn.cs) (m := 1) hb29 (fun u hu => ((mem1 (Q := fun u => CnOk w80 u) (((ownCn_ok (rows_own (f := Ty.cs) (m := 1) hb26 (fun u hu => ((mem1 (Q := fun u => TyOk u) unitTy_ok) u hu).size) rfl (by decide)) (mem1 (Q := fun u => TyOk u) unitTy_ok))).keep (Below.refl _ _))) u hu).size) rfl (by decide)) (mem1 (Q := fun u => CnOk w80 u) (((ownCn_ok (rows_own (f := Ty.cs) (m := 1) hb26 (fun u hu => ((mem1 (Q := fun u => TyOk u) unitTy_ok) u hu).size) rfl (by decide)) (mem1 (Q := fun u => TyOk u) unitTy_ok))).keep (Below.refl _ _))))).keep (Below.refl _ _))))) u hu).size))).keep (Below.refl _ _)) ((all_app (Q := fun u => DatOk w80 u) (fun u hu => ((hp).datOk u hu).keep hB) (mem1 (Q := fun u => DatOk w80 u) (((ownDat_ok (rows_own (f := Cn.cs) (m := 1) hb29 (fun u hu => ((mem1 (Q := fun u => CnOk w80 u) (((ownCn_ok (rows_own (f := Ty.cs) (m := 1) hb26 (fun u hu => ((mem1 (Q := fun u => TyOk u) unitTy_ok) u hu).size) rfl (by decide)) (mem1 (Q := fun u => TyOk u) unitTy_ok))).keep (Below.refl _ _))) u hu).size) rfl (by decide)) (mem1 (Q := fun u => CnOk w80 u) (((ownCn_ok (rows_own (f := Ty.cs) (m := 1) hb26 (fun u hu => ((mem1 (Q := fun u => TyOk u) unitTy_ok) u hu).size) rfl (by decide)) (mem1 (Q := fun u => TyOk u) unitTy_ok))).keep (Below.refl _ _))))).keep (Below.refl _ _))))))).keep (Below.refl _ _)), rfl, rfl, rfl, rfl⟩
            · skip
              refine At.buildSlice (xs := [.tmp 107]) rfl rfl el26 sz31 ze31 (by intro v hv; simp only [List.mem_cons, List.not_mem_nil, or_false] at hv; rcases hv with rfl <;> first | rfl | simp [Value.cells, (unitTy_ok).size]) rfl (by decide) rfl (fun b32 w81 F32 => ?_)
              have n_b1_b32 : b1 ≠ b32 := Nat.ne_of_lt (F32.lt hb1)
              have n_b2_b32 : b2 ≠ b32 := Nat.ne_of_lt (F32.lt hb2)
              have n_b8_b32 : b8 ≠ b32 := Nat.ne_of_lt (F32.lt hb8)
              have n_b21_b32 : b21 ≠ b32 := Nat.ne_of_lt (F32.lt hb21)
              have gb32 := F32.ge hB
              replace hb1 := F32.old hb1
              replace hb2 := F32.old hb2
              replace hb8 := F32.old hb8
              replace hb21 := F32.old hb21
              have hb32 : w81.heap[b32]? = some (.cells (([unitTy].map Ty.cs).flatMap (·.toList)).toArray 31) := F32.new
              replace hB := F32.below' hB
              refine At.ops0 ?_
              refine At.wpcN (.cons rfl rfl rfl rfl (fun Lx => ?_) (.cons rfl rfl rfl rfl (fun Lx => ?_) (.cons rfl rfl rfl rfl (fun Lx => ?_) (.cons rfl rfl rfl rfl (fun Lx => ?_) .nil)))) ?_
              · skip
                refine At.fieldAddr rfl fo35_1 rfl ?_
                refine At.ops0 ?_
                exact fun a ha => ⟨ha, rfl⟩
              · skip
                refine At.load rfl (Ld.ownCell ag23 hb1 (hp).c1) rfl ?_
                refine At.ops0 ?_
                exact fun a ha => ⟨ha, rfl⟩
              · skip
                refine At.move rfl rfl ?_
                refine At.ops0 ?_
                exact fun a ha => ⟨ha, rfl⟩
              · skip
                refine At.move rfl rfl ?_
                refine At.ops0 ?_
                exact fun a ha => ⟨ha, rfl⟩
              refine At.wpcS (i := 8) (d := 109) (.agg #[.string con, (.slice (some ⟨b32, 0, none⟩) 1 1)]) (by kernel_rfl) rfl rfl rfl (fun Lx => ?_) ?_
              · skip
                refine At.build (C := #[.string con, (.slice (some ⟨b32, 0, none⟩) 1 1)]) sd54 ze54 rfl (Bld.cons fo54_0 rfl (by first | decide | exact Nat.le_of_ble_eq_true rfl) (Bld.cons fo54_1 rfl (by first | decide | exact Nat.le_of_ble_eq_true rfl) (Bld.nil _))) rfl ?_
                refine At.ops0 ?_
                exact fun a ha => ⟨ha, rfl⟩
              refine At.wpcE [0, 9] (by kernel_rfl) (by kernel_rfl) (.cons [1, 2, 4, 5, 8] rfl (by kernel_rfl) ?_ (.cons [1, 2, 4] rfl (by kernel_rfl) ?_ .nil))
              · skip
                refine At.buildSlice (xs := []) rfl rfl el23 sz52 ze52 (by simp) rfl (by decide) rfl (fun b33 w82 F33 => ?_)
                have n_b1_b33 : b1 ≠ b33 := Nat.ne_of_lt (F33.lt hb1)
                have n_b2_b33 : b2 ≠ b33 := Nat.ne_of_lt (F33.lt hb2)
                have n_b8_b33 : b8 ≠ b33 := Nat.ne_of_lt (F33.lt hb8)
                have n_b21_b33 : b21 ≠ b33 := Nat.ne_of_lt (F33.lt hb21)
                have n_b32_b33 : b32 ≠ b33 := Nat.ne_of_lt (F33.lt hb32)
                have gb33 := F33.ge hB
                replace hb1 := F33.old hb1
                replace hb2 := F33.old hb2
                replace hb8 := F33.old hb8
                replace hb21 := F33.old hb21
                replace hb32 := F33.old hb32
                have hb33 : w82.heap[b33]? = some (.cells #[] 52) := F33.new
                replace hB := F33.below' hB
                have hO25 : OwnR 52 2 Dat.cs w82 (.slice (some ⟨b33, 0, none⟩) 0 0) [] := OwnR.made hb33
                have ghO25 : ∀ g, Value.ownBlock (.slice (some ⟨b33, 0, none⟩) 0 0) = some g → w.heap.size ≤ g := fun g h => by cases h; exact gb33
                have qhO25_b1 : some b1 ≠ Value.ownBlock (.slice (some ⟨b33, 0, none⟩) 0 0) := fun e => n_b1_b33 (Option.some.inj e)
                have qhO25_b2 : some b2 ≠ Value.ownBlock (.slice (some ⟨b33, 0, none⟩) 0 0) := fun e => n_b2_b33 (Option.some.inj e)
                have qhO25_b8 : some b8 ≠ Value.ownBlock (.slice (some ⟨b33, 0, none⟩) 0 0) := fun e => n_b8_b33 (Option.some.inj e)
                have qhO25_b21 : some b21 ≠ Value.ownBlock (.slice (some ⟨b33, 0, none⟩) 0 0) := fun e => n_b21_b33 (Option.some.inj e)
                have qhO25_b32 : some b32 ≠ Value.ownBlock (.slice (some ⟨b33, 0, none⟩) 0 0) := fun e => n_b32_b33 (Option.some.inj e)
                clear hb33
                refine At.ops0 ?_
                refine At.wpcN (.cons rfl rfl rfl rfl (fun Lx => ?_) (.cons rfl rfl rfl rfl (fun Lx => ?_) (.cons rfl rfl rfl rfl (fun Lx => ?_) (.cons rfl rfl rfl rfl (fun Lx => ?_) (.cons rfl rfl rfl rfl (fun Lx => ?_) .nil))))) ?_
                · skip
                  refine At.fieldAddr rfl fo35_1 rfl ?_
                  refine At.ops0 ?_
                  exact fun a ha => ⟨ha, rfl⟩
                · skip
                  refine At.load rfl (Ld.ownCell ag23 hb1 (hp).c1) rfl ?_
                  refine At.ops0 ?_
                  exact fun a ha => ⟨ha, rfl⟩
                · skip
                  refine At.move rfl rfl ?_
                  refine At.ops0 ?_
                  exact fun a ha => ⟨ha, rfl⟩
                · skip
                  refine At.move rfl rfl ?_
                  refine At.ops0 ?_
                  exact fun a ha => ⟨ha, rfl⟩
                · skip
                  refine At.build (C := #[.string con, (.slice (some ⟨b32, 0, none⟩) 1 1)]) sd54 ze54 rfl (Bld.cons fo54_0 rfl (by first | decide | exact Nat.le_of_ble_eq_true rfl) (Bld.cons fo54_1 rfl (by first | decide | exact Nat.le_of_ble_eq_true rfl) (Bld.nil _))) rfl ?_
                  refine At.ops0 ?_
                  exact fun a ha => ⟨ha, rfl⟩
                refine At.wpcE [3, 9] (by kernel_rfl) (by kernel_rfl) (.cons [4, 5, 8] rfl (by kernel_rfl) ?_ (.cons [1, 2, 4] rfl (by kernel_rfl) ?_ .nil))
                · skip
                  refine At.appendR (f := Dat.cs) rfl rfl el23 el23 sz52 by52 ze52 rfl hO25 (((hp).datsAt).keep hB) (by decide) (fun u hu => (((fun u hu => ((hp).datOk u hu).keep hB)) u hu).one) (by simp; omega) (by simp; omega) rfl (fun va21 w83 hO26 hA21 => ?_)
                  replace hO26 : OwnR 52 2 Dat.cs w83 va21 p.dats := hO26
                  replace hb1 := hA21.old hb1 (hO25.neT hb1 rfl)
                  replace hb2 := hA21.old hb2 (hO25.neT hb2 rfl)
                  replace hb8 := hA21.old hb8 (hO25.neT hb8 rfl)
                  replace hb21 := hA21.old hb21 (hO25.neT hb21 rfl)
                  replace hb32 := hA21.old hb32 (hO25.neT hb32 rfl)
                  have ghO26 := hA21.ge hB.size ghO25
                  replace hB := hA21.below hB hB.size ghO25
                  refine At.ops0 ?_
                  refine At.wpcN (.cons rfl rfl rfl rfl (fun Lx => ?_) (.cons rfl rfl rfl rfl (fun Lx => ?_) (.cons rfl rfl rfl rfl (fun Lx => ?_) .nil))) ?_
                  · skip
                    refine At.move rfl rfl ?_
                    refine At.ops0 ?_
                    exact fun a ha => ⟨ha, rfl⟩
                  · skip
                    refine At.move rfl rfl ?_
                    refine At.ops0 ?_
                    exact fun a ha => ⟨ha, rfl⟩
                  · skip
                    refine At.build (C := #[.string con, (.slice (some ⟨b32, 0, none⟩) 1 1)]) sd54 ze54 rfl (Bld.cons fo54_0 rfl (by first | decide | exact Nat.le_of_ble_eq_true rfl) (Bld.cons fo54_1 rfl (by first | decide | exact Nat.le_of_ble_eq_true rfl) (Bld.nil _))) rfl ?_
                    refine At.ops0 ?_
                    exact fun a ha => ⟨ha, rfl⟩
                  refine At.wpcE [9] (by kernel_rfl) (by kernel_rfl) (.cons [4] rfl (by kernel_rfl) ?_ .nil)
                  refine At.buildSlice (xs := [.tmp 109]) rfl rfl el50 sz54 ze54 (by intro v hv; simp only [List.mem_cons, List.not_mem_nil, or_false] at hv; rcases hv with rfl <;> first | rfl | simp [Value.cells, ((ownCn_ok (rows_own (f := Ty.cs) (m := 1) hb32 (fun u hu => ((mem1 (Q := fun u => TyOk u) unitTy_ok) u hu).size) rfl (by decide)) (mem1 (Q := fun u => TyOk u) unitTy_ok))).size]) rfl (by decide) rfl (fun b34 w84 F34 => ?_)
                  have n_b1_b34 : b1 ≠ b34 := Nat.ne_of_lt (F34.lt hb1)
                  have n_b2_b34 : b2 ≠ b34 := Nat.ne_of_lt (F34.lt hb2)
                  have n_b8_b34 : b8 ≠ b34 := Nat.ne_of_lt (F34.lt hb8)
                  have n_b21_b34 : b21 ≠ b34 := Nat.ne_of_lt (F34.lt hb21)
                  have n_b32_b34 : b32 ≠ b34 := Nat.ne_of_lt (F34.lt hb32)
                  have gb34 := F34.ge hB
                  replace hb1 := F34.old hb1
                  replace hb2 := F34.old hb2
                  replace hb8 := F34.old hb8
                  replace hb21 := F34.old hb21
                  replace hb32 := F34.old hb32
                  replace hO26 := hO26.fresh F34
                  have hb34 : w84.heap[b34]? = some (.cells (([(ownCn con (.slice (some ⟨b32, 0, none⟩) 1 1) [unitTy])].map Cn.cs).flatMap (·.toList)).toArray 54) := F34.new
                  replace hB := F34.below' hB
                  refine At.ops0 ?_
                  refine At.wpcN (.cons rfl rfl rfl rfl (fun Lx => ?_) .nil) ?_
                  · skip
                    refine At.move rfl rfl ?_
                    refine At.ops0 ?_
                    exact fun a ha => ⟨ha, rfl⟩
                  refine At.wpcS (i := 10) (d := 111) (.agg #[.string name, (.slice (some ⟨b34, 0, none⟩) 1 1)]) (by kernel_rfl) rfl rfl rfl (fun Lx => ?_) ?_
                  · skip
                    refine At.build (C := #[.string name, (.slice (some ⟨b34, 0, none⟩) 1 1)]) sd52 ze52 rfl (Bld.cons fo52_0 rfl (by first | decide | exact Nat.le_of_ble_eq_true rfl) (Bld.cons fo52_1 rfl (by first | decide | exact Nat.le_of_ble_eq_true rfl) (Bld.nil _))) rfl ?_
                    refine At.ops0 ?_
                    exact fun a ha => ⟨ha, rfl⟩
                  refine At.wpcE [11] (by kernel_rfl) (by kernel_rfl) (.cons [] rfl (by kernel_rfl) ?_ .nil)
                  refine At.buildSlice (xs := [.tmp 111]) rfl rfl el23 sz52 ze52 (by intro v hv; simp only [List.mem_cons, List.not_mem_nil, or_false] at hv; rcases hv with rfl <;> first | rfl | simp [Value.cells, ((ownDat_ok (rows_own (f := Cn.cs) (m := 1) hb34 (fun u hu => ((mem1 (Q := fun u => CnOk w84 u) (((ownCn_ok (rows_own (f := Ty.cs) (m := 1) hb32 (fun u hu => ((mem1 (Q := fun u => TyOk u) unitTy_ok) u hu).size) rfl (by decide)) (mem1 (Q := fun u => TyOk u) unitTy_ok))).keep (Below.refl _ _))) u hu).size) rfl (by decide)) (mem1 (Q := fun u => CnOk w84 u) (((ownCn_ok (rows_own (f := Ty.cs) (m := 1) hb32 (fun u hu => ((mem1 (Q := fun u => TyOk u) unitTy_ok) u hu).size) rfl (by decide)) (mem1 (Q := fun u => TyOk u) unitTy_ok))).keep (Below.refl _ _))))).size]) rfl (by decide) rfl (fun b35 w85 F35 => ?_)
                  have q_hO26_b35 : some b35 ≠ Value.ownBlock va21 := Own.neFresh hO26 F35
                  have n_b1_b35 : b1 ≠ b35 := Nat.ne_of_lt (F35.lt hb1)
                  have n_b2_b35 : b2 ≠ b35 := Nat.ne_of_lt (F35.lt hb2)
                  have n_b8_b35 : b8 ≠ b35 := Nat.ne_of_lt (F35.lt hb8)
                  have n_b21_b35 : b21 ≠ b35 := Nat.ne_of_lt (F35.lt hb21)
                  have n_b32_b35 : b32 ≠ b35 := Nat.ne_of_lt (F35.lt hb32)
                  have n_b34_b35 : b34 ≠ b35 := Nat.ne_of_lt (F35.lt hb34)
                  have gb35 := F35.ge hB
                  replace hb1 := F35.old hb1
                  replace hb2 := F35.old hb2
                  replace hb8 := F35.old hb8
                  replace hb21 := F35.old hb21
                  replace hb32 := F35.old hb32
                  replace hb34 := F35.old hb34
                  replace hO26 := hO26.fresh F35
                  have hb35 : w85.heap[b35]? = some (.cells (([(ownDat name (.slice (some ⟨b34, 0, none⟩) 1 1) [(ownCn con (.slice (some ⟨b32, 0, none⟩) 1 1) [unitTy])])].map Dat.cs).flatMap (·.toList)).toArray 52) := F35.new
                  replace hB := F35.below' hB
                  refine At.ops0 ?_
                  refine At.wpcN .nil ?_
                  refine At.wpcE [12] (by kernel_rfl) (by kernel_rfl) (.cons [] rfl (by kernel_rfl) ?_ .nil)
                  refine At.appendR (f := Dat.cs) rfl rfl el23 el23 sz52 by52 ze52 rfl hO26 (rows_own (f := Dat.cs) (m := 1) hb35 (fun u hu => ((mem1 (Q := fun u => DatOk w85 u) (((ownDat_ok (rows_own (f := Cn.cs) (m := 1) hb34 (fun u hu => ((mem1 (Q := fun u => CnOk w85 u) (((ownCn_ok (rows_own (f := Ty.cs) (m := 1) hb32 (fun u hu => ((mem1 (Q := fun u => TyOk u) unitTy_ok) u hu).size) rfl (by decide)) (mem1 (Q := fun u => TyOk u) unitTy_ok))).keep (Below.refl _ _))) u hu).size) rfl (by decide)) (mem1 (Q := fun u => CnOk w85 u) (((ownCn_ok (rows_own (f := Ty.cs) (m := 1) hb32 (fun u hu => ((mem1 (Q := fun u => TyOk u) unitTy_ok) u hu).size) rfl (by decide)) (mem1 (Q := fun u => TyOk u) unitTy_ok))).keep (Below.refl _ _))))).keep (Below.refl _ _))) u hu).size) rfl (by decide)) (by decide) (fun u hu => (((mem1 (Q := fun u => DatOk w85 u) (((ownDat_ok (rows_own (f := Cn.cs) (m := 1) hb34 (fun u hu => ((mem1 (Q := fun u => CnOk w85 u) (((ownCn_ok (rows_own (f := Ty.cs) (m := 1) hb32 (fun u hu => ((mem1 (Q := fun u => TyOk u) unitTy_ok) u hu).size) rfl (by decide)) (mem1 (Q := fun u => TyOk u) unitTy_ok))).keep (Below.refl _ _))) u hu).size) rfl (by decide)) (mem1 (Q := fun u => CnOk w85 u) (((ownCn_ok (rows_own (f := Ty.cs) (m := 1) hb32 (fun u hu => ((mem1 (Q := fun u => TyOk u) unitTy_ok) u hu).size) rfl (by decide)) (mem1 (Q := fun u => TyOk u) unitTy_ok))).keep (Below.refl _ _))))).keep (Below.refl _ _)))) u hu).one) (by simp; omega) (by simp; omega) rfl (fun va22 w86 hO27 hA22 => ?_)
                  replace hO27 : OwnR 52 2 Dat.cs w86 va22 (p.dats ++ [(ownDat name (.slice (some ⟨b34, 0, none⟩) 1 1) [(ownCn con (.slice (some ⟨b32, 0, none⟩) 1 1) [unitTy])])]) := hO27
                  replace hb1 := hA22.old hb1 (hO26.neT hb1 rfl)
                  replace hb2 := hA22.old hb2 (hO26.neT hb2 rfl)
                  replace hb8 := hA22.old hb8 (hO26.neT hb8 rfl)
                  replace hb21 := hA22.old hb21 (hO26.neT hb21 rfl)
                  replace hb32 := hA22.old hb32 (hO26.neT hb32 rfl)
                  replace hb34 := hA22.old hb34 (hO26.neT hb34 rfl)
                  clear hb35
                  have ghO27 := hA22.ge hB.size ghO26
                  replace hB := hA22.below hB hB.size ghO26
                  refine At.ops0 ?_
                  refine At.wpcN .nil ?_
                  refine At.wpcS (i := 13) (d := 114) (.pointer (some ⟨b21, 0 + 1, none⟩)) (by kernel_rfl) rfl rfl rfl (fun Lx => ?_) ?_
                  · skip
                    refine At.fieldAddr rfl fo35_1 rfl ?_
                    refine At.ops0 ?_
                    exact fun a ha => ⟨ha, rfl⟩
                  refine At.wpcE [14] (by kernel_rfl) (by kernel_rfl) (.cons [] rfl (by kernel_rfl) ?_ .nil)
                  refine At.store1 rfl rfl hb21 sz23 (by rw [(hp).size]; decide) (hO27).one (fun w87 S19 => ?_)
                  replace hb1 := S19.other hb1 n_b1_b21
                  replace hb2 := S19.other hb2 n_b2_b21
                  replace hb8 := S19.other hb8 n_b8_b21
                  replace hb32 := S19.other hb32 n_b21_b32.symm
                  replace hb34 := S19.other hb34 n_b21_b34.symm
                  replace hO27 := hO27.set S19 (hO27.neT hb21 rfl)
                  replace hb21 : w87.heap[b21]? = some (.cells (Pr.withDats p va22 (p.dats ++ [(ownDat name (.slice (some ⟨b34, 0, none⟩) 1 1) [(ownCn con (.slice (some ⟨b32, 0, none⟩) 1 1) [unitTy])])])).cs 35) := S19.new
                  replace hB := S19.below' hB gb21
                  refine At.ops0 ?_
                  refine At.wpcN .nil ?_
                  refine At.wpcZ ?_
                  exact At.joinedG (va22, (ownDat name (.slice (some ⟨b34, 0, none⟩) 1 1) [(ownCn con (.slice (some ⟨b32, 0, none⟩) 1 1) [unitTy])]), (ownCn con (.slice (some ⟨b32, 0, none⟩) 1 1) [unitTy])) (Sub.cons rfl (Sub.cons rfl (Sub.cons rfl (Sub.cons rfl (Sub.cons rfl (Sub.cons rfl (Sub.cons rfl (Sub.cons rfl (Sub.cons rfl (Sub.cons rfl Sub.nil)))))))))) ⟨hB, hb21, (((PrOk.withDats ((hp).keep hB) (((OwnR.rows hO27 (fun u hu => (((all_app (Q := fun u => DatOk w87 u) (fun u hu => ((hp).datOk u hu).keep hB) (mem1 (Q := fun u => DatOk w87 u) (((ownDat_ok (rows_own (f := Cn.cs) (m := 1) hb34 (fun u hu => ((mem1 (Q := fun u => CnOk w87 u) (((ownCn_ok (rows_own (f := Ty.cs) (m := 1) hb32 (fun u hu => ((mem1 (Q := fun u => TyOk u) unitTy_ok) u hu).size) rfl (by decide)) (mem1 (Q := fun u => TyOk u) unitTy_ok))).keep (Below.refl _ _))) u hu).size) rfl (by decide)) (mem1 (Q := fun u => CnOk w87 u) (((ownCn_ok (rows_own (f := Ty.cs) (m := 1) hb32 (fun u hu => ((mem1 (Q := fun u => TyOk u) unitTy_ok) u hu).size) rfl (by decide)) (mem1 (Q := fun u => TyOk u) unitTy_ok))).keep (Below.refl _ _))))).keep (Below.refl _ _))))) u hu).size))).keep (Below.refl _ _)) ((all_app (Q := fun u => DatOk w87 u) (fun u hu => ((hp).datOk u hu).keep hB) (mem1 (Q := fun u => DatOk w87 u) (((ownDat_ok (rows_own (f := Cn.cs) (m := 1) hb34 (fun u hu => ((mem1 (Q := fun u => CnOk w87 u) (((ownCn_ok (rows_own (f := Ty.cs) (m := 1) hb32 (fun u hu => ((mem1 (Q := fun u => TyOk u) unitTy_ok) u hu).size) rfl (by decide)) (mem1 (Q := fun u => TyOk u) unitTy_ok))).keep (Below.refl _ _))) u hu).size) rfl (by decide)) (mem1 (Q := fun u => CnOk w87 u) (((ownCn_ok (rows_own (f := Ty.cs) (m := 1) hb32 (fun u hu => ((mem1 (Q := fun u => TyOk u) unitTy_ok) u hu).size) rfl (by decide)) (mem1 (Q := fun u => TyOk u) unitTy_ok))).keep (Below.refl _ _))))).keep (Below.refl _ _))))))).keep (Below.refl _ _)), rfl, rfl, rfl, rfl⟩
                · skip
                  refine At.buildSlice (xs := [.tmp 109]) rfl rfl el50 sz54 ze54 (by intro v hv; simp only [List.mem_cons, List.not_mem_nil, or_false] at hv; rcases hv with rfl <;> first | rfl | simp [Value.cells, ((ownCn_ok (rows_own (f := Ty.cs) (m := 1) hb32 (fun u hu => ((mem1 (Q := fun u => TyOk u) unitTy_ok) u hu).size) rfl (by decide)) (mem1 (Q := fun u => TyOk u) unitTy_ok))).size]) rfl (by decide) rfl (fun b36 w88 F36 => ?_)
                  have n_b1_b36 : b1 ≠ b36 := Nat.ne_of_lt (F36.lt hb1)
                  have n_b2_b36 : b2 ≠ b36 := Nat.ne_of_lt (F36.lt hb2)
                  have n_b8_b36 : b8 ≠ b36 := Nat.ne_of_lt (F36.lt hb8)
                  have n_b21_b36 : b21 ≠ b36 := Nat.ne_of_lt (F36.lt hb21)
                  have n_b32_b36 : b32 ≠ b36 := Nat.ne_of_lt (F36.lt hb32)
                  have gb36 := F36.ge hB
                  replace hb1 := F36.old hb1
                  replace hb2 := F36.old hb2
                  replace hb8 := F36.old hb8
                  replace hb21 := F36.old hb21
                  replace hb32 := F36.old hb32
                  replace hO25 := hO25.fresh F36
                  have hb36 : w88.heap[b36]? = some (.cells (([(ownCn con (.slice (some ⟨b32, 0, none⟩) 1 1) [unitTy])].map Cn.cs).flatMap (·.toList)).toArray 54) := F36.new
                  replace hB := F36.below' hB
                  refine At.ops0 ?_
                  refine At.wpcN (.cons rfl rfl rfl rfl (fun Lx => ?_) (.cons rfl rfl rfl rfl (fun Lx => ?_) (.cons rfl rfl rfl rfl (fun Lx => ?_) .nil))) ?_
                  · skip
                    refine At.fieldAddr rfl fo35_1 rfl ?_
                    refine At.ops0 ?_
                    exact fun a ha => ⟨ha, rfl⟩
                  · skip
                    refine At.load rfl (Ld.ownCell ag23 hb1 (hp).c1) rfl ?_
                    refine At.ops0 ?_
                    exact fun a ha => ⟨ha, rfl⟩
                  · skip
                    refine At.move rfl rfl ?_
                    refine At.ops0 ?_
                    exact fun a ha => ⟨ha, rfl⟩
                  refine At.wpcS (i := 10) (d := 111) (.agg #[.string name, (.slice (some ⟨b36, 0, none⟩) 1 1)]) (by kernel_rfl) rfl rfl rfl (fun Lx => ?_) ?_
                  · skip
                    refine At.build (C := #[.string name, (.slice (some ⟨b36, 0, none⟩) 1 1)]) sd52 ze52 rfl (Bld.cons fo52_0 rfl (by first | decide | exact Nat.le_of_ble_eq_true rfl) (Bld.cons fo52_1 rfl (by first | decide | exact Nat.le_of_ble_eq_true rfl) (Bld.nil _))) rfl ?_
                    refine At.ops0 ?_
                    exact fun a ha => ⟨ha, rfl⟩
                  refine At.wpcE [3, 11] (by kernel_rfl) (by kernel_rfl) (.cons [4, 10] rfl (by kernel_rfl) ?_ (.cons [1, 2] rfl (by kernel_rfl) ?_ .nil))
                  · skip
                    refine At.appendR (f := Dat.cs) rfl rfl el23 el23 sz52 by52 ze52 rfl hO25 (((hp).datsAt).keep hB) (by decide) (fun u hu => (((fun u hu => ((hp).datOk u hu).keep hB)) u hu).one) (by simp; omega) (by simp; omega) rfl (fun va23 w89 hO28 hA23 => ?_)
                    replace hO28 : OwnR 52 2 Dat.cs w89 va23 p.dats := hO28
                    replace hb1 := hA23.old hb1 (hO25.neT hb1 rfl)
                    replace hb2 := hA23.old hb2 (hO25.neT hb2 rfl)
                    replace hb8 := hA23.old hb8 (hO25.neT hb8 rfl)
                    replace hb21 := hA23.old hb21 (hO25.neT hb21 rfl)
                    replace hb32 := hA23.old hb32 (hO25.neT hb32 rfl)
                    replace hb36 := hA23.old hb36 (hO25.neT hb36 rfl)
                    have ghO28 := hA23.ge hB.size ghO25
                    replace hB := hA23.below hB hB.size ghO25
                    refine At.ops0 ?_
                    refine At.wpcN (.cons rfl rfl rfl rfl (fun Lx => ?_) (.cons rfl rfl rfl rfl (fun Lx => ?_) .nil)) ?_
                    · skip
                      refine At.move rfl rfl ?_
                      refine At.ops0 ?_
                      exact fun a ha => ⟨ha, rfl⟩
                    · skip
                      refine At.build (C := #[.string name, (.slice (some ⟨b36, 0, none⟩) 1 1)]) sd52 ze52 rfl (Bld.cons fo52_0 rfl (by first | decide | exact Nat.le_of_ble_eq_true rfl) (Bld.cons fo52_1 rfl (by first | decide | exact Nat.le_of_ble_eq_true rfl) (Bld.nil _))) rfl ?_
                      refine At.ops0 ?_
                      exact fun a ha => ⟨ha, rfl⟩
                    refine At.wpcE [11] (by kernel_rfl) (by kernel_rfl) (.cons [] rfl (by kernel_rfl) ?_ .nil)
                    refine At.buildSlice (xs := [.tmp 111]) rfl rfl el23 sz52 ze52 (by intro v hv; simp only [List.mem_cons, List.not_mem_nil, or_false] at hv; rcases hv with rfl <;> first | rfl | simp [Value.cells, ((ownDat_ok (rows_own (f := Cn.cs) (m := 1) hb36 (fun u hu => ((mem1 (Q := fun u => CnOk w89 u) (((ownCn_ok (rows_own (f := Ty.cs) (m := 1) hb32 (fun u hu => ((mem1 (Q := fun u => TyOk u) unitTy_ok) u hu).size) rfl (by decide)) (mem1 (Q := fun u => TyOk u) unitTy_ok))).keep (Below.refl _ _))) u hu).size) rfl (by decide)) (mem1 (Q := fun u => CnOk w89 u) (((ownCn_ok (rows_own (f := Ty.cs) (m := 1) hb32 (fun u hu => ((mem1 (Q := fun u => TyOk u) unitTy_ok) u hu).size) rfl (by decide)) (mem1 (Q := fun u => TyOk u) unitTy_ok))).keep (Below.refl _ _))))).size]) rfl (by decide) rfl (fun b37 w90 F37 => ?_)
                    have q_hO28_b37 : some b37 ≠ Value.ownBlock va23 := Own.neFresh hO28 F37
                    have n_b1_b37 : b1 ≠ b37 := Nat.ne_of_lt (F37.lt hb1)
                    have n_b2_b37 : b2 ≠ b37 := Nat.ne_of_lt (F37.lt hb2)
                    have n_b8_b37 : b8 ≠ b37 := Nat.ne_of_lt (F37.lt hb8)
                    have n_b21_b37 : b21 ≠ b37 := Nat.ne_of_lt (F37.lt hb21)
                    have n_b32_b37 : b32 ≠ b37 := Nat.ne_of_lt (F37.lt hb32)
                    have n_b36_b37 : b36 ≠ b37 := Nat.ne_of_lt (F37.lt hb36)
                    have gb37 := F37.ge hB
                    replace hb1 := F37.old hb1
                    replace hb2 := F37.old hb2
                    replace hb8 := F37.old hb8
                    replace hb21 := F37.old hb21
                    replace hb32 := F37.old hb32
                    replace hb36 := F37.old hb36
                    replace hO28 := hO28.fresh F37
                    have hb37 : w90.heap[b37]? = some (.cells (([(ownDat name (.slice (some ⟨b36, 0, none⟩) 1 1) [(ownCn con (.slice (some ⟨b32, 0, none⟩) 1 1) [unitTy])])].map Dat.cs).flatMap (·.toList)).toArray 52) := F37.new
                    replace hB := F37.below' hB
                    refine At.ops0 ?_
                    refine At.wpcN .nil ?_
                    refine At.wpcE [12] (by kernel_rfl) (by kernel_rfl) (.cons [] rfl (by kernel_rfl) ?_ .nil)
                    refine At.appendR (f := Dat.cs) rfl rfl el23 el23 sz52 by52 ze52 rfl hO28 (rows_own (f := Dat.cs) (m := 1) hb37 (fun u hu => ((mem1 (Q := fun u => DatOk w90 u) (((ownDat_ok (rows_own (f := Cn.cs) (m := 1) hb36 (fun u hu => ((mem1 (Q := fun u => CnOk w90 u) (((ownCn_ok (rows_own (f := Ty.cs) (m := 1) hb32 (fun u hu => ((mem1 (Q := fun u => TyOk u) unitTy_ok) u hu).size) rfl (by decide)) (mem1 (Q := fun u => TyOk u) unitTy_ok))).keep (Below.refl _ _))) u hu).size) rfl (by decide)) (mem1 (Q := fun u => CnOk w90 u) (((ownCn_ok (rows_own (f := Ty.cs) (m := 1) hb32 (fun u hu => ((mem1 (Q := fun u => TyOk u) unitTy_ok) u hu).size) rfl (by decide)) (mem1 (Q := fun u => TyOk u) unitTy_ok))).keep (Below.refl _ _))))).keep (Below.refl _ _))) u hu).size) rfl (by decide)) (by decide) (fun u hu => (((mem1 (Q := fun u => DatOk w90 u) (((ownDat_ok (rows_own (f := Cn.cs) (m := 1) hb36 (fun u hu => ((mem1 (Q := fun u => CnOk w90 u) (((ownCn_ok (rows_own (f := Ty.cs) (m := 1) hb32 (fun u hu => ((mem1 (Q := fun u => TyOk u) unitTy_ok) u hu).size) rfl (by decide)) (mem1 (Q := fun u => TyOk u) unitTy_ok))).keep (Below.refl _ _))) u hu).size) rfl (by decide)) (mem1 (Q := fun u => CnOk w90 u) (((ownCn_ok (rows_own (f := Ty.cs) (m := 1) hb32 (fun u hu => ((mem1 (Q := fun u => TyOk u) unitTy_ok) u hu).size) rfl (by decide)) (mem1 (Q := fun u => TyOk u) unitTy_ok))).keep (Below.refl _ _))))).keep (Below.refl _ _)))) u hu).one) (by simp; omega) (by simp; omega) rfl (fun va24 w91 hO29 hA24 => ?_)
                    replace hO29 : OwnR 52 2 Dat.cs w91 va24 (p.dats ++ [(ownDat name (.slice (some ⟨b36, 0, none⟩) 1 1) [(ownCn con (.slice (some ⟨b32, 0, none⟩) 1 1) [unitTy])])]) := hO29
                    replace hb1 := hA24.old hb1 (hO28.neT hb1 rfl)
                    replace hb2 := hA24.old hb2 (hO28.neT hb2 rfl)
                    replace hb8 := hA24.old hb8 (hO28.neT hb8 rfl)
                    replace hb21 := hA24.old hb21 (hO28.neT hb21 rfl)
                    replace hb32 := hA24.old hb32 (hO28.neT hb32 rfl)
                    replace hb36 := hA24.old hb36 (hO28.neT hb36 rfl)
                    clear hb37
                    have ghO29 := hA24.ge hB.size ghO28
                    replace hB := hA24.below hB hB.size ghO28
                    refine At.ops0 ?_
                    refine At.wpcN .nil ?_
                    refine At.wpcS (i := 13) (d := 114) (.pointer (some ⟨b21, 0 + 1, none⟩)) (by kernel_rfl) rfl rfl rfl (fun Lx => ?_) ?_
                    · skip
                      refine At.fieldAddr rfl fo35_1 rfl ?_
                      refine At.ops0 ?_
                      exact fun a ha => ⟨ha, rfl⟩
                    refine At.wpcE [14] (by kernel_rfl) (by kernel_rfl) (.cons [] rfl (by kernel_rfl) ?_ .nil)
                    refine At.store1 rfl rfl hb21 sz23 (by rw [(hp).size]; decide) (hO29).one (fun w92 S20 => ?_)
                    replace hb1 := S20.other hb1 n_b1_b21
                    replace hb2 := S20.other hb2 n_b2_b21
                    replace hb8 := S20.other hb8 n_b8_b21
                    replace hb32 := S20.other hb32 n_b21_b32.symm
                    replace hb36 := S20.other hb36 n_b21_b36.symm
                    replace hO29 := hO29.set S20 (hO29.neT hb21 rfl)
                    replace hb21 : w92.heap[b21]? = some (.cells (Pr.withDats p va24 (p.dats ++ [(ownDat name (.slice (some ⟨b36, 0, none⟩) 1 1) [(ownCn con (.slice (some ⟨b32, 0, none⟩) 1 1) [unitTy])])])).cs 35) := S20.new
                    replace hB := S20.below' hB gb21
                    refine At.ops0 ?_
                    refine At.wpcN .nil ?_
                    refine At.wpcZ ?_
                    exact At.joinedG (va24, (ownDat name (.slice (some ⟨b36, 0, none⟩) 1 1) [(ownCn con (.slice (some ⟨b32, 0, none⟩) 1 1) [unitTy])]), (ownCn con (.slice (some ⟨b32, 0, none⟩) 1 1) [unitTy])) (Sub.cons rfl (Sub.cons rfl (Sub.cons rfl (Sub.cons rfl (Sub.cons rfl (Sub.cons rfl (Sub.cons rfl (Sub.cons rfl (Sub.cons rfl (Sub.cons rfl Sub.nil)))))))))) ⟨hB, hb21, (((PrOk.withDats ((hp).keep hB) (((OwnR.rows hO29 (fun u hu => (((all_app (Q := fun u => DatOk w92 u) (fun u hu => ((hp).datOk u hu).keep hB) (mem1 (Q := fun u => DatOk w92 u) (((ownDat_ok (rows_own (f := Cn.cs) (m := 1) hb36 (fun u hu => ((mem1 (Q := fun u => CnOk w92 u) (((ownCn_ok (rows_own (f := Ty.cs) (m := 1) hb32 (fun u hu => ((mem1 (Q := fun u => TyOk u) unitTy_ok) u hu).size) rfl (by decide)) (mem1 (Q := fun u => TyOk u) unitTy_ok))).keep (Below.refl _ _))) u hu).size) rfl (by decide)) (mem1 (Q := fun u => CnOk w92 u) (((ownCn_ok (rows_own (f := Ty.cs) (m := 1) hb32 (fun u hu => ((mem1 (Q := fun u => TyOk u) unitTy_ok) u hu).size) rfl (by decide)) (mem1 (Q := fun u => TyOk u) unitTy_ok))).keep (Below.refl _ _))))).keep (Below.refl _ _))))) u hu).size))).keep (Below.refl _ _)) ((all_app (Q := fun u => DatOk w92 u) (fun u hu => ((hp).datOk u hu).keep hB) (mem1 (Q := fun u => DatOk w92 u) (((ownDat_ok (rows_own (f := Cn.cs) (m := 1) hb36 (fun u hu => ((mem1 (Q := fun u => CnOk w92 u) (((ownCn_ok (rows_own (f := Ty.cs) (m := 1) hb32 (fun u hu => ((mem1 (Q := fun u => TyOk u) unitTy_ok) u hu).size) rfl (by decide)) (mem1 (Q := fun u => TyOk u) unitTy_ok))).keep (Below.refl _ _))) u hu).size) rfl (by decide)) (mem1 (Q := fun u => CnOk w92 u) (((ownCn_ok (rows_own (f := Ty.cs) (m := 1) hb32 (fun u hu => ((mem1 (Q := fun u => TyOk u) unitTy_ok) u hu).size) rfl (by decide)) (mem1 (Q := fun u => TyOk u) unitTy_ok))).keep (Below.refl _ _))))).keep (Below.refl _ _))))))).keep (Below.refl _ _)), rfl, rfl, rfl, rfl⟩
                  · skip
                    refine At.buildSlice (xs := [.tmp 111]) rfl rfl el23 sz52 ze52 (by intro v hv; simp only [List.mem_cons, List.not_mem_nil, or_false] at hv; rcases hv with rfl <;> first | rfl | simp [Value.cells, ((ownDat_ok (rows_own (f := Cn.cs) (m := 1) hb36 (fun u hu => ((mem1 (Q := fun u => CnOk w88 u) (((ownCn_ok (rows_own (f := Ty.cs) (m := 1) hb32 (fun u hu => ((mem1 (Q := fun u => TyOk u) unitTy_ok) u hu).size) rfl (by decide)) (mem1 (Q := fun u => TyOk u) unitTy_ok))).keep (Below.refl _ _))) u hu).size) rfl (by decide)) (mem1 (Q := fun u => CnOk w88 u) (((ownCn_ok (rows_own (f := Ty.cs) (m := 1) hb32 (fun u hu => ((mem1 (Q := fun u => TyOk u) unitTy_ok) u hu).size) rfl (by decide)) (mem1 (Q := fun u => TyOk u) unitTy_ok))).keep (Below.refl _ _))))).size]) rfl (by decide) rfl (fun b38 w93 F38 => ?_)
                    have q_hO25_b38 : some b38 ≠ Value.ownBlock (.slice (some ⟨b33, 0, none⟩) 0 0) := Own.neFresh hO25 F38
                    have n_b1_b38 : b1 ≠ b38 := Nat.ne_of_lt (F38.lt hb1)
                    have n_b2_b38 : b2 ≠ b38 := Nat.ne_of_lt (F38.lt hb2)
                    have n_b8_b38 : b8 ≠ b38 := Nat.ne_of_lt (F38.lt hb8)
                    have n_b21_b38 : b21 ≠ b38 := Nat.ne_of_lt (F38.lt hb21)
                    have n_b32_b38 : b32 ≠ b38 := Nat.ne_of_lt (F38.lt hb32)
                    have n_b36_b38 : b36 ≠ b38 := Nat.ne_of_lt (F38.lt hb36)
                    have gb38 := F38.ge hB
                    replace hb1 := F38.old hb1
                    replace hb2 := F38.old hb2
                    replace hb8 := F38.old hb8
                    replace hb21 := F38.old hb21
                    replace hb32 := F38.old hb32
                    replace hb36 := F38.old hb36
                    replace hO25 := hO25.fresh F38
                    have hb38 : w93.heap[b38]? = some (.cells (([(ownDat name (.slice (some ⟨b36, 0, none⟩) 1 1) [(ownCn con (.slice (some ⟨b32, 0, none⟩) 1 1) [unitTy])])].map Dat.cs).flatMap (·.toList)).toArray 52) := F38.new
                    replace hB := F38.below' hB
                    refine At.ops0 ?_
                    refine At.wpcN (.cons rfl rfl rfl rfl (fun Lx => ?_) (.cons rfl rfl rfl rfl (fun Lx => ?_) .nil)) ?_
                    · skip
                      refine At.fieldAddr rfl fo35_1 rfl ?_
                      refine At.ops0 ?_
                      exact fun a ha => ⟨ha, rfl⟩
                    · skip
                      refine At.load rfl (Ld.ownCell ag23 hb1 (hp).c1) rfl ?_
                      refine At.ops0 ?_
                      exact fun a ha => ⟨ha, rfl⟩
                    refine At.wpcE [3] (by kernel_rfl) (by kernel_rfl) (.cons [] rfl (by kernel_rfl) ?_ .nil)
                    refine At.appendR (f := Dat.cs) rfl rfl el23 el23 sz52 by52 ze52 rfl hO25 (((hp).datsAt).keep hB) (by decide) (fun u hu => (((fun u hu => ((hp).datOk u hu).keep hB)) u hu).one) (by simp; omega) (by simp; omega) rfl (fun va25 w94 hO30 hA25 => ?_)
                    replace hO30 : OwnR 52 2 Dat.cs w94 va25 p.dats := hO30
                    replace hb1 := hA25.old hb1 (hO25.neT hb1 rfl)
                    replace hb2 := hA25.old hb2 (hO25.neT hb2 rfl)
                    replace hb8 := hA25.old hb8 (hO25.neT hb8 rfl)
                    replace hb21 := hA25.old hb21 (hO25.neT hb21 rfl)
                    replace hb32 := hA25.old hb32 (hO25.neT hb32 rfl)
                    replace hb36 := hA25.old hb36 (hO25.neT hb36 rfl)
                    have q_hO30_b38 : some b38 ≠ Value.ownBlock va25 := Moved.ne hA25.blk (Array.getElem?_eq_some_iff.1 hb38).1 q_hO25_b38
                    replace hb38 := hA25.old hb38 q_hO25_b38
                    have ghO30 := hA25.ge hB.size ghO25
                    replace hB := hA25.below hB hB.size ghO25
                    refine At.ops0 ?_
                    refine At.wpcN .nil ?_
                    refine At.wpcE [12] (by kernel_rfl) (by kernel_rfl) (.cons [] rfl (by kernel_rfl) ?_ .nil)
                    refine At.appendR (f := Dat.cs) rfl rfl el23 el23 sz52 by52 ze52 rfl hO30 (rows_own (f := Dat.cs) (m := 1) hb38 (fun u hu => ((mem1 (Q := fun u => DatOk w94 u) (((ownDat_ok (rows_own (f := Cn.cs) (m := 1) hb36 (fun u hu => ((mem1 (Q := fun u => CnOk w94 u) (((ownCn_ok (rows_own (f := Ty.cs) (m := 1) hb32 (fun u hu => ((mem1 (Q := fun u => TyOk u) unitTy_ok) u hu).size) rfl (by decide)) (mem1 (Q := fun u => TyOk u) unitTy_ok))).keep (Below.refl _ _))) u hu).size) rfl (by decide)) (mem1 (Q := fun u => CnOk w94 u) (((ownCn_ok (rows_own (f := Ty.cs) (m := 1) hb32 (fun u hu => ((mem1 (Q := fun u => TyOk u) unitTy_ok) u hu).size) rfl (by decide)) (mem1 (Q := fun u => TyOk u) unitTy_ok))).keep (Below.refl _ _))))).keep (Below.refl _ _))) u hu).size) rfl (by decide)) (by decide) (fun u hu => (((mem1 (Q := fun u => DatOk w94 u) (((ownDat_ok (rows_own (f := Cn.cs) (m := 1) hb36 (fun u hu => ((mem1 (Q := fun u => CnOk w94 u) (((ownCn_ok (rows_own (f := Ty.cs) (m := 1) hb32 (fun u hu => ((mem1 (Q := fun u => TyOk u) unitTy_ok) u hu).size) rfl (by decide)) (mem1 (Q := fun u => TyOk u) unitTy_ok))).keep (Below.refl _ _))) u hu).size) rfl (by decide)) (mem1 (Q := fun u => CnOk w94 u) (((ownCn_ok (rows_own (f := Ty.cs) (m := 1) hb32 (fun u hu => ((mem1 (Q := fun u => TyOk u) unitTy_ok) u hu).size) rfl (by decide)) (mem1 (Q := fun u => TyOk u) unitTy_ok))).keep (Below.refl _ _))))).keep (Below.refl _ _)))) u hu).one) (by simp; omega) (by simp; omega) rfl (fun va26 w95 hO31 hA26 => ?_)
                    replace hO31 : OwnR 52 2 Dat.cs w95 va26 (p.dats ++ [(ownDat name (.slice (some ⟨b36, 0, none⟩) 1 1) [(ownCn con (.slice (some ⟨b32, 0, none⟩) 1 1) [unitTy])])]) := hO31
                    replace hb1 := hA26.old hb1 (hO30.neT hb1 rfl)
                    replace hb2 := hA26.old hb2 (hO30.neT hb2 rfl)
                    replace hb8 := hA26.old hb8 (hO30.neT hb8 rfl)
                    replace hb21 := hA26.old hb21 (hO30.neT hb21 rfl)
                    replace hb32 := hA26.old hb32 (hO30.neT hb32 rfl)
                    replace hb36 := hA26.old hb36 (hO30.neT hb36 rfl)
                    clear hb38
                    have ghO31 := hA26.ge hB.size ghO30
                    replace hB := hA26.below hB hB.size ghO30
                    refine At.ops0 ?_
                    refine At.wpcN .nil ?_
                    refine At.wpcS (i := 13) (d := 114) (.pointer (some ⟨b21, 0 + 1, none⟩)) (by kernel_rfl) rfl rfl rfl (fun Lx => ?_) ?_
                    · skip
                      refine At.fieldAddr rfl fo35_1 rfl ?_
                      refine At.ops0 ?_
                      exact fun a ha => ⟨ha, rfl⟩
                    refine At.wpcE [14] (by kernel_rfl) (by kernel_rfl) (.cons [] rfl (by kernel_rfl) ?_ .nil)
                    refine At.store1 rfl rfl hb21 sz23 (by rw [(hp).size]; decide) (hO31).one (fun w96 S21 => ?_)
                    replace hb1 := S21.other hb1 n_b1_b21
                    replace hb2 := S21.other hb2 n_b2_b21
                    replace hb8 := S21.other hb8 n_b8_b21
                    replace hb32 := S21.other hb32 n_b21_b32.symm
                    replace hb36 := S21.other hb36 n_b21_b36.symm
                    replace hO31 := hO31.set S21 (hO31.neT hb21 rfl)
                    replace hb21 : w96.heap[b21]? = some (.cells (Pr.withDats p va26 (p.dats ++ [(ownDat name (.slice (some ⟨b36, 0, none⟩) 1 1) [(ownCn con (.slice (some ⟨b32, 0, none⟩) 1 1) [unitTy])])])).cs 35) := S21.new
                    replace hB := S21.below' hB gb21
                    refine At.ops0 ?_
                    refine At.wpcN .nil ?_
                    refine At.wpcZ ?_
                    exact At.joinedG (va26, (ownDat name (.slice (some ⟨b36, 0, none⟩) 1 1) [(ownCn con (.slice (some ⟨b32, 0, none⟩) 1 1) [unitTy])]), (ownCn con (.slice (some ⟨b32, 0, none⟩) 1 1) [unitTy])) (Sub.cons rfl (Sub.cons rfl (Sub.cons rfl (Sub.cons rfl (Sub.cons rfl (Sub.cons rfl (Sub.cons rfl (Sub.cons rfl (Sub.cons rfl (Sub.cons rfl Sub.nil)))))))))) ⟨hB, hb21, (((PrOk.withDats ((hp).keep hB) (((OwnR.rows hO31 (fun u hu => (((all_app (Q := fun u => DatOk w96 u) (fun u hu => ((hp).datOk u hu).keep hB) (mem1 (Q := fun u => DatOk w96 u) (((ownDat_ok (rows_own (f := Cn.cs) (m := 1) hb36 (fun u hu => ((mem1 (Q := fun u => CnOk w96 u) (((ownCn_ok (rows_own (f := Ty.cs) (m := 1) hb32 (fun u hu => ((mem1 (Q := fun u => TyOk u) unitTy_ok) u hu).size) rfl (by decide)) (mem1 (Q := fun u => TyOk u) unitTy_ok))).keep (Below.refl _ _))) u hu).size) rfl (by decide)) (mem1 (Q := fun u => CnOk w96 u) (((ownCn_ok (rows_own (f := Ty.cs) (m := 1) hb32 (fun u hu => ((mem1 (Q := fun u => TyOk u) unitTy_ok) u hu).size) rfl (by decide)) (mem1 (Q := fun u => TyOk u) unitTy_ok))).keep (Below.refl _ _))))).keep (Below.refl _ _))))) u hu).size))).keep (Below.refl _ _)) ((all_app (Q := fun u => DatOk w96 u) (fun u hu => ((hp).datOk u hu).keep hB) (mem1 (Q := fun u => DatOk w96 u) (((ownDat_ok (rows_own (f := Cn.cs) (m := 1) hb36 (fun u hu => ((mem1 (Q := fun u => CnOk w96 u) (((ownCn_ok (rows_own (f := Ty.cs) (m := 1) hb32 (fun u hu => ((mem1 (Q := fun u => TyOk u) unitTy_ok) u hu).size) rfl (by decide)) (mem1 (Q := fun u => TyOk u) unitTy_ok))).keep (Below.refl _ _))) u hu).size) rfl (by decide)) (mem1 (Q := fun u => CnOk w96 u) (((ownCn_ok (rows_own (f := Ty.cs) (m := 1) hb32 (fun u hu => ((mem1 (Q := fun u => TyOk u) unitTy_ok) u hu).size) rfl (by decide)) (mem1 (Q := fun u => TyOk u) unitTy_ok))).keep (Below.refl _ _))))).keep (Below.refl _ _))))))).keep (Below.refl _ _)), rfl, rfl, rfl, rfl⟩
              · skip
                refine At.buildSlice (xs := [.tmp 109]) rfl rfl el50 sz54 ze54 (by intro v hv; simp only [List.mem_cons, List.not_mem_nil, or_false] at hv; rcases hv with rfl <;> first | rfl | simp [Value.cells, ((ownCn_ok (rows_own (f := Ty.cs) (m := 1) hb32 (fun u hu => ((mem1 (Q := fun u => TyOk u) unitTy_ok) u hu).size) rfl (by decide)) (mem1 (Q := fun u => TyOk u) unitTy_ok))).size]) rfl (by decide) rfl (fun b39 w97 F39 => ?_)
                have n_b1_b39 : b1 ≠ b39 := Nat.ne_of_lt (F39.lt hb1)
                have n_b2_b39 : b2 ≠ b39 := Nat.ne_of_lt (F39.lt hb2)
                have n_b8_b39 : b8 ≠ b39 := Nat.ne_of_lt (F39.lt hb8)
                have n_b21_b39 : b21 ≠ b39 := Nat.ne_of_lt (F39.lt hb21)
                have n_b32_b39 : b32 ≠ b39 := Nat.ne_of_lt (F39.lt hb32)
                have gb39 := F39.ge hB
                replace hb1 := F39.old hb1
                replace hb2 := F39.old hb2
                replace hb8 := F39.old hb8
                replace hb21 := F39.old hb21
                replace hb32 := F39.old hb32
                have hb39 : w97.heap[b39]? = some (.cells (([(ownCn con (.slice (some ⟨b32, 0, none⟩) 1 1) [unitTy])].map Cn.cs).flatMap (·.toList)).toArray 54) := F39.new
                replace hB := F39.below' hB
                refine At.ops0 ?_
                refine At.wpcN (.cons rfl rfl rfl rfl (fun Lx => ?_) (.cons rfl rfl rfl rfl (fun Lx => ?_) (.cons rfl rfl rfl rfl (fun Lx => ?_) .nil))) ?_
                · skip
                  refine At.fieldAddr rfl fo35_1 rfl ?_
                  refine At.ops0 ?_
                  exact fun a ha => ⟨ha, rfl⟩
                · skip
                  refine At.load rfl (Ld.ownCell ag23 hb1 (hp).c1) rfl ?_
                  refine At.ops0 ?_
                  exact fun a ha => ⟨ha, rfl⟩
                · skip
                  refine At.move rfl rfl ?_
                  refine At.ops0 ?_
                  exact fun a ha => ⟨ha, rfl⟩
                refine At.wpcS (i := 10) (d := 111) (.agg #[.string name, (.slice (some ⟨b39, 0, none⟩) 1 1)]) (by kernel_rfl) rfl rfl rfl (fun Lx => ?_) ?_
                · skip
                  refine At.build (C := #[.string name, (.slice (some ⟨b39, 0, none⟩) 1 1)]) sd52 ze52 rfl (Bld.cons fo52_0 rfl (by first | decide | exact Nat.le_of_ble_eq_true rfl) (Bld.cons fo52_1 rfl (by first | decide | exact Nat.le_of_ble_eq_true rfl) (Bld.nil _))) rfl ?_
                  refine At.ops0 ?_
                  exact fun a ha => ⟨ha, rfl⟩
                refine At.wpcE [0, 11] (by kernel_rfl) (by kernel_rfl) (.cons [1, 2, 4, 10] rfl (by kernel_rfl) ?_ (.cons [1, 2] rfl (by kernel_rfl) ?_ .nil))
                · skip
                  refine At.buildSlice (xs := []) rfl rfl el23 sz52 ze52 (by simp) rfl (by decide) rfl (fun b40 w98 F40 => ?_)
                  have n_b1_b40 : b1 ≠ b40 := Nat.ne_of_lt (F40.lt hb1)
                  have n_b2_b40 : b2 ≠ b40 := Nat.ne_of_lt (F40.lt hb2)
                  have n_b8_b40 : b8 ≠ b40 := Nat.ne_of_lt (F40.lt hb8)
                  have n_b21_b40 : b21 ≠ b40 := Nat.ne_of_lt (F40.lt hb21)
                  have n_b32_b40 : b32 ≠ b40 := Nat.ne_of_lt (F40.lt hb32)
                  have n_b39_b40 : b39 ≠ b40 := Nat.ne_of_lt (F40.lt hb39)
                  have gb40 := F40.ge hB
                  replace hb1 := F40.old hb1
                  replace hb2 := F40.old hb2
                  replace hb8 := F40.old hb8
                  replace hb21 := F40.old hb21
                  replace hb32 := F40.old hb32
                  replace hb39 := F40.old hb39
                  have hb40 : w98.heap[b40]? = some (.cells #[] 52) := F40.new
                  replace hB := F40.below' hB
                  have hO32 : OwnR 52 2 Dat.cs w98 (.slice (some ⟨b40, 0, none⟩) 0 0) [] := OwnR.made hb40
                  have ghO32 : ∀ g, Value.ownBlock (.slice (some ⟨b40, 0, none⟩) 0 0) = some g → w.heap.size ≤ g := fun g h => by cases h; exact gb40
                  have qhO32_b1 : some b1 ≠ Value.ownBlock (.slice (some ⟨b40, 0, none⟩) 0 0) := fun e => n_b1_b40 (Option.some.inj e)
                  have qhO32_b2 : some b2 ≠ Value.ownBlock (.slice (some ⟨b40, 0, none⟩) 0 0) := fun e => n_b2_b40 (Option.some.inj e)
                  have qhO32_b8 : some b8 ≠ Value.ownBlock (.slice (some ⟨b40, 0, none⟩) 0 0) := fun e => n_b8_b40 (Option.some.inj e)
                  have qhO32_b21 : some b21 ≠ Value.ownBlock (.slice (some ⟨b40, 0, none⟩) 0 0) := fun e => n_b21_b40 (Option.some.inj e)
                  have qhO32_b32 : some b32 ≠ Value.ownBlock (.slice (some ⟨b40, 0, none⟩) 0 0) := fun e => n_b32_b40 (Option.some.inj e)
                  have qhO32_b39 : some b39 ≠ Value.ownBlock (.slice (some ⟨b40, 0, none⟩) 0 0) := fun e => n_b39_b40 (Option.some.inj e)
                  clear hb40
                  refine At.ops0 ?_
                  refine At.wpcN (.cons rfl rfl rfl rfl (fun Lx => ?_) (.cons rfl rfl rfl rfl (fun Lx => ?_) (.cons rfl rfl rfl rfl (fun Lx => ?_) (.cons rfl rfl rfl rfl (fun Lx => ?_) .nil)))) ?_
                  · skip
                    refine At.fieldAddr rfl fo35_1 rfl ?_
                    refine At.ops0 ?_
                    exact fun a ha => ⟨ha, rfl⟩
                  · skip
                    refine At.load rfl (Ld.ownCell ag23 hb1 (hp).c1) rfl ?_
                    refine At.ops0 ?_
                    exact fun a ha => ⟨ha, rfl⟩
                  · skip
                    refine At.move rfl rfl ?_
                    refine At.ops0 ?_
                    exact fun a ha => ⟨ha, rfl⟩
                  · skip
                    refine At.build (C := #[.string name, (.slice (some ⟨b39, 0, none⟩) 1 1)]) sd52 ze52 rfl (Bld.cons fo52_0 rfl (by first | decide | exact Nat.le_of_ble_eq_true rfl) (Bld.cons fo52_1 rfl (by first | decide | exact Nat.le_of_ble_eq_true rfl) (Bld.nil _))) rfl ?_
                    refine At.ops0 ?_
                    exact fun a ha => ⟨ha, rfl⟩
                  refine At.wpcE [3, 11] (by kernel_rfl) (by kernel_rfl) (.cons [4, 10] rfl (by kernel_rfl) ?_ (.cons [1, 2] rfl (by kernel_rfl) ?_ .nil))
                  · skip
                    refine At.appendR (f := Dat.cs) rfl rfl el23 el23 sz52 by52 ze52 rfl hO32 (((hp).datsAt).keep hB) (by decide) (fun u hu => (((fun u hu => ((hp).datOk u hu).keep hB)) u hu).one) (by simp; omega) (by simp; omega) rfl (fun va27 w99 hO33 hA27 => ?_)
                    replace hO33 : OwnR 52 2 Dat.cs w99 va27 p.dats := hO33
                    replace hb1 := hA27.old hb1 (hO32.neT hb1 rfl)
                    replace hb2 := hA27.old hb2 (hO32.neT hb2 rfl)
                    replace hb8 := hA27.old hb8 (hO32.neT hb8 rfl)
                    replace hb21 := hA27.old hb21 (hO32.neT hb21 rfl)
                    replace hb32 := hA27.old hb32 (hO32.neT hb32 rfl)
                    replace hb39 := hA27.old hb39 (hO32.neT hb39 rfl)
                    have ghO33 := hA27.ge hB.size ghO32
                    replace hB := hA27.below hB hB.size ghO32
                    refine At.ops0 ?_
                    refine At.wpcN (.cons rfl rfl rfl rfl (fun Lx => ?_) (.cons rfl rfl rfl rfl (fun Lx => ?_) .nil)) ?_
                    · skip
                      refine At.move rfl rfl ?_
                      refine At.ops0 ?_
                      exact fun a ha => ⟨ha, rfl⟩
                    · skip
                      refine At.build (C := #[.string name, (.slice (some ⟨b39, 0, none⟩) 1 1)]) sd52 ze52 rfl (Bld.cons fo52_0 rfl (by first | decide | exact Nat.le_of_ble_eq_true rfl) (Bld.cons fo52_1 rfl (by first | decide | exact Nat.le_of_ble_eq_true rfl) (Bld.nil _))) rfl ?_
                      refine At.ops0 ?_
                      exact fun a ha => ⟨ha, rfl⟩
                    refine At.wpcE [11] (by kernel_rfl) (by kernel_rfl) (.cons [] rfl (by kernel_rfl) ?_ .nil)
                    refine At.buildSlice (xs := [.tmp 111]) rfl rfl el23 sz52 ze52 (by intro v hv; simp only [List.mem_cons, List.not_mem_nil, or_false] at hv; rcases hv with rfl <;> first | rfl | simp [Value.cells, ((ownDat_ok (rows_own (f := Cn.cs) (m := 1) hb39 (fun u hu => ((mem1 (Q := fun u => CnOk w99 u) (((ownCn_ok (rows_own (f := Ty.cs) (m := 1) hb32 (fun u hu => ((mem1 (Q := fun u => TyOk u) unitTy_ok) u hu).size) rfl (by decide)) (mem1 (Q := fun u => TyOk u) unitTy_ok))).keep (Below.refl _ _))) u hu).size) rfl (by decide)) (mem1 (Q := fun u => CnOk w99 u) (((ownCn_ok (rows_own (f := Ty.cs) (m := 1) hb32 (fun u hu => ((mem1 (Q := fun u => TyOk u) unitTy_ok) u hu).size) rfl (by decide)) (mem1 (Q := fun u => TyOk u) unitTy_ok))).keep (Below.refl _ _))))).size]) rfl (by decide) rfl (fun b41 w100 F41 => ?_)
                    have q_hO33_b41 : some b41 ≠ Value.ownBlock va27 := Own.neFresh hO33 F41
                    have n_b1_b41 : b1 ≠ b41 := Nat.ne_of_lt (F41.lt hb1)
                    have n_b2_b41 : b2 ≠ b41 := Nat.ne_of_lt (F41.lt hb2)
                    have n_b8_b41 : b8 ≠ b41 := Nat.ne_of_lt (F41.lt hb8)
                    have n_b21_b41 : b21 ≠ b41 := Nat.ne_of_lt (F41.lt hb21)
                    have n_b32_b41 : b32 ≠ b41 := Nat.ne_of_lt (F41.lt hb32)
                    have n_b39_b41 : b39 ≠ b41 := Nat.ne_of_lt (F41.lt hb39)
                    have gb41 := F41.ge hB
                    replace hb1 := F41.old hb1
                    replace hb2 := F41.old hb2
                    replace hb8 := F41.old hb8
                    replace hb21 := F41.old hb21
                    replace hb32 := F41.old hb32
                    replace hb39 := F41.old hb39
                    replace hO33 := hO33.fresh F41
                    have hb41 : w100.heap[b41]? = some (.cells (([(ownDat name (.slice (some ⟨b39, 0, none⟩) 1 1) [(ownCn con (.slice (some ⟨b32, 0, none⟩) 1 1) [unitTy])])].map Dat.cs).flatMap (·.toList)).toArray 52) := F41.new
                    replace hB := F41.below' hB
                    refine At.ops0 ?_
                    refine At.wpcN .nil ?_
                    refine At.wpcE [12] (by kernel_rfl) (by kernel_rfl) (.cons [] rfl (by kernel_rfl) ?_ .nil)
                    refine At.appendR (f := Dat.cs) rfl rfl el23 el23 sz52 by52 ze52 rfl hO33 (rows_own (f := Dat.cs) (m := 1) hb41 (fun u hu => ((mem1 (Q := fun u => DatOk w100 u) (((ownDat_ok (rows_own (f := Cn.cs) (m := 1) hb39 (fun u hu => ((mem1 (Q := fun u => CnOk w100 u) (((ownCn_ok (rows_own (f := Ty.cs) (m := 1) hb32 (fun u hu => ((mem1 (Q := fun u => TyOk u) unitTy_ok) u hu).size) rfl (by decide)) (mem1 (Q := fun u => TyOk u) unitTy_ok))).keep (Below.refl _ _))) u hu).size) rfl (by decide)) (mem1 (Q := fun u => CnOk w100 u) (((ownCn_ok (rows_own (f := Ty.cs) (m := 1) hb32 (fun u hu => ((mem1 (Q := fun u => TyOk u) unitTy_ok) u hu).size) rfl (by decide)) (mem1 (Q := fun u => TyOk u) unitTy_ok))).keep (Below.refl _ _))))).keep (Below.refl _ _))) u hu).size) rfl (by decide)) (by decide) (fun u hu => (((mem1 (Q := fun u => DatOk w100 u) (((ownDat_ok (rows_own (f := Cn.cs) (m := 1) hb39 (fun u hu => ((mem1 (Q := fun u => CnOk w100 u) (((ownCn_ok (rows_own (f := Ty.cs) (m := 1) hb32 (fun u hu => ((mem1 (Q := fun u => TyOk u) unitTy_ok) u hu).size) rfl (by decide)) (mem1 (Q := fun u => TyOk u) unitTy_ok))).keep (Below.refl _ _))) u hu).size) rfl (by decide)) (mem1 (Q := fun u => CnOk w100 u) (((ownCn_ok (rows_own (f := Ty.cs) (m := 1) hb32 (fun u hu => ((mem1 (Q := fun u => TyOk u) unitTy_ok) u hu).size) rfl (by decide)) (mem1 (Q := fun u => TyOk u) unitTy_ok))).keep (Below.refl _ _))))).keep (Below.refl _ _)))) u hu).one) (by simp; omega) (by simp; omega) rfl (fun va28 w101 hO34 hA28 => ?_)
                    replace hO34 : OwnR 52 2 Dat.cs w101 va28 (p.dats ++ [(ownDat name (.slice (some ⟨b39, 0, none⟩) 1 1) [(ownCn con (.slice (some ⟨b32, 0, none⟩) 1 1) [unitTy])])]) := hO34
                    replace hb1 := hA28.old hb1 (hO33.neT hb1 rfl)
                    replace hb2 := hA28.old hb2 (hO33.neT hb2 rfl)
                    replace hb8 := hA28.old hb8 (hO33.neT hb8 rfl)
                    replace hb21 := hA28.old hb21 (hO33.neT hb21 rfl)
                    replace hb32 := hA28.old hb32 (hO33.neT hb32 rfl)
                    replace hb39 := hA28.old hb39 (hO33.neT hb39 rfl)
                    clear hb41
                    have ghO34 := hA28.ge hB.size ghO33
                    replace hB := hA28.below hB hB.size ghO33
                    refine At.ops0 ?_
                    refine At.wpcN .nil ?_
                    refine At.wpcS (i := 13) (d := 114) (.pointer (some ⟨b21, 0 + 1, none⟩)) (by kernel_rfl) rfl rfl rfl (fun Lx => ?_) ?_
                    · skip
                      refine At.fieldAddr rfl fo35_1 rfl ?_
                      refine At.ops0 ?_
                      exact fun a ha => ⟨ha, rfl⟩
                    refine At.wpcE [14] (by kernel_rfl) (by kernel_rfl) (.cons [] rfl (by kernel_rfl) ?_ .nil)
                    refine At.store1 rfl rfl hb21 sz23 (by rw [(hp).size]; decide) (hO34).one (fun w102 S22 => ?_)
                    replace hb1 := S22.other hb1 n_b1_b21
                    replace hb2 := S22.other hb2 n_b2_b21
                    replace hb8 := S22.other hb8 n_b8_b21
                    replace hb32 := S22.other hb32 n_b21_b32.symm
                    replace hb39 := S22.other hb39 n_b21_b39.symm
                    replace hO34 := hO34.set S22 (hO34.neT hb21 rfl)
                    replace hb21 : w102.heap[b21]? = some (.cells (Pr.withDats p va28 (p.dats ++ [(ownDat name (.slice (some ⟨b39, 0, none⟩) 1 1) [(ownCn con (.slice (some ⟨b32, 0, none⟩) 1 1) [unitTy])])])).cs 35) := S22.new
                    replace hB := S22.below' hB gb21
                    refine At.ops0 ?_
                    refine At.wpcN .nil ?_
                    refine At.wpcZ ?_
                    exact At.joinedG (va28, (ownDat name (.slice (some ⟨b39, 0, none⟩) 1 1) [(ownCn con (.slice (some ⟨b32, 0, none⟩) 1 1) [unitTy])]), (ownCn con (.slice (some ⟨b32, 0, none⟩) 1 1) [unitTy])) (Sub.cons rfl (Sub.cons rfl (Sub.cons rfl (Sub.cons rfl (Sub.cons rfl (Sub.cons rfl (Sub.cons rfl (Sub.cons rfl (Sub.cons rfl (Sub.cons rfl Sub.nil)))))))))) ⟨hB, hb21, (((PrOk.withDats ((hp).keep hB) (((OwnR.rows hO34 (fun u hu => (((all_app (Q := fun u => DatOk w102 u) (fun u hu => ((hp).datOk u hu).keep hB) (mem1 (Q := fun u => DatOk w102 u) (((ownDat_ok (rows_own (f := Cn.cs) (m := 1) hb39 (fun u hu => ((mem1 (Q := fun u => CnOk w102 u) (((ownCn_ok (rows_own (f := Ty.cs) (m := 1) hb32 (fun u hu => ((mem1 (Q := fun u => TyOk u) unitTy_ok) u hu).size) rfl (by decide)) (mem1 (Q := fun u => TyOk u) unitTy_ok))).keep (Below.refl _ _))) u hu).size) rfl (by decide)) (mem1 (Q := fun u => CnOk w102 u) (((ownCn_ok (rows_own (f := Ty.cs) (m := 1) hb32 (fun u hu => ((mem1 (Q := fun u => TyOk u) unitTy_ok) u hu).size) rfl (by decide)) (mem1 (Q := fun u => TyOk u) unitTy_ok))).keep (Below.refl _ _))))).keep (Below.refl _ _))))) u hu).size))).keep (Below.refl _ _)) ((all_app (Q := fun u => DatOk w102 u) (fun u hu => ((hp).datOk u hu).keep hB) (mem1 (Q := fun u => DatOk w102 u) (((ownDat_ok (rows_own (f := Cn.cs) (m := 1) hb39 (fun u hu => ((mem1 (Q := fun u => CnOk w102 u) (((ownCn_ok (rows_own (f := Ty.cs) (m := 1) hb32 (fun u hu => ((mem1 (Q := fun u => TyOk u) unitTy_ok) u hu).size) rfl (by decide)) (mem1 (Q := fun u => TyOk u) unitTy_ok))).keep (Below.refl _ _))) u hu).size) rfl (by decide)) (mem1 (Q := fun u => CnOk w102 u) (((ownCn_ok (rows_own (f := Ty.cs) (m := 1) hb32 (fun u hu => ((mem1 (Q := fun u => TyOk u) unitTy_ok) u hu).size) rfl (by decide)) (mem1 (Q := fun u => TyOk u) unitTy_ok))).keep (Below.refl _ _))))).keep (Below.refl _ _))))))).keep (Below.refl _ _)), rfl, rfl, rfl, rfl⟩
                  · skip
                    refine At.buildSlice (xs := [.tmp 111]) rfl rfl el23 sz52 ze52 (by intro v hv; simp only [List.mem_cons, List.not_mem_nil, or_false] at hv; rcases hv with rfl <;> first | rfl | simp [Value.cells, ((ownDat_ok (rows_own (f := Cn.cs) (m := 1) hb39 (fun u hu => ((mem1 (Q := fun u => CnOk w98 u) (((ownCn_ok (rows_own (f := Ty.cs) (m := 1) hb32 (fun u hu => ((mem1 (Q := fun u => TyOk u) unitTy_ok) u hu).size) rfl (by decide)) (mem1 (Q := fun u => TyOk u) unitTy_ok))).keep (Below.refl _ _))) u hu).size) rfl (by decide)) (mem1 (Q := fun u => CnOk w98 u) (((ownCn_ok (rows_own (f := Ty.cs) (m := 1) hb32 (fun u hu => ((mem1 (Q := fun u => TyOk u) unitTy_ok) u hu).size) rfl (by decide)) (mem1 (Q := fun u => TyOk u) unitTy_ok))).keep (Below.refl _ _))))).size]) rfl (by decide) rfl (fun b42 w103 F42 => ?_)
                    have q_hO32_b42 : some b42 ≠ Value.ownBlock (.slice (some ⟨b40, 0, none⟩) 0 0) := Own.neFresh hO32 F42
                    have n_b1_b42 : b1 ≠ b42 := Nat.ne_of_lt (F42.lt hb1)
                    have n_b2_b42 : b2 ≠ b42 := Nat.ne_of_lt (F42.lt hb2)
                    have n_b8_b42 : b8 ≠ b42 := Nat.ne_of_lt (F42.lt hb8)
                    have n_b21_b42 : b21 ≠ b42 := Nat.ne_of_lt (F42.lt hb21)
                    have n_b32_b42 : b32 ≠ b42 := Nat.ne_of_lt (F42.lt hb32)
                    have n_b39_b42 : b39 ≠ b42 := Nat.ne_of_lt (F42.lt hb39)
                    have gb42 := F42.ge hB
                    replace hb1 := F42.old hb1
                    replace hb2 := F42.old hb2
                    replace hb8 := F42.old hb8
                    replace hb21 := F42.old hb21
                    replace hb32 := F42.old hb32
                    replace hb39 := F42.old hb39
                    replace hO32 := hO32.fresh F42
                    have hb42 : w103.heap[b42]? = some (.cells (([(ownDat name (.slice (some ⟨b39, 0, none⟩) 1 1) [(ownCn con (.slice (some ⟨b32, 0, none⟩) 1 1) [unitTy])])].map Dat.cs).flatMap (·.toList)).toArray 52) := F42.new
                    replace hB := F42.below' hB
                    refine At.ops0 ?_
                    refine At.wpcN (.cons rfl rfl rfl rfl (fun Lx => ?_) (.cons rfl rfl rfl rfl (fun Lx => ?_) .nil)) ?_
                    · skip
                      refine At.fieldAddr rfl fo35_1 rfl ?_
                      refine At.ops0 ?_
                      exact fun a ha => ⟨ha, rfl⟩
                    · skip
                      refine At.load rfl (Ld.ownCell ag23 hb1 (hp).c1) rfl ?_
                      refine At.ops0 ?_
                      exact fun a ha => ⟨ha, rfl⟩
                    refine At.wpcE [3] (by kernel_rfl) (by kernel_rfl) (.cons [] rfl (by kernel_rfl) ?_ .nil)
                    refine At.appendR (f := Dat.cs) rfl rfl el23 el23 sz52 by52 ze52 rfl hO32 (((hp).datsAt).keep hB) (by decide) (fun u hu => (((fun u hu => ((hp).datOk u hu).keep hB)) u hu).one) (by simp; omega) (by simp; omega) rfl (fun va29 w104 hO35 hA29 => ?_)
                    replace hO35 : OwnR 52 2 Dat.cs w104 va29 p.dats := hO35
                    replace hb1 := hA29.old hb1 (hO32.neT hb1 rfl)
                    replace hb2 := hA29.old hb2 (hO32.neT hb2 rfl)
                    replace hb8 := hA29.old hb8 (hO32.neT hb8 rfl)
                    replace hb21 := hA29.old hb21 (hO32.neT hb21 rfl)
                    replace hb32 := hA29.old hb32 (hO32.neT hb32 rfl)
                    replace hb39 := hA29.old hb39 (hO32.neT hb39 rfl)
                    have q_hO35_b42 : some b42 ≠ Value.ownBlock va29 := Moved.ne hA29.blk (Array.getElem?_eq_some_iff.1 hb42).1 q_hO32_b42
                    replace hb42 := hA29.old hb42 q_hO32_b42
                    have ghO35 := hA29.ge hB.size ghO32
                    replace hB := hA29.below hB hB.size ghO32
                    refine At.ops0 ?_
                    refine At.wpcN .nil ?_
                    refine At.wpcE [12] (by kernel_rfl) (by kernel_rfl) (.cons [] rfl (by kernel_rfl) ?_ .nil)
                    refine At.appendR (f := Dat.cs) rfl rfl el23 el23 sz52 by52 ze52 rfl hO35 (rows_own (f := Dat.cs) (m := 1) hb42 (fun u hu => ((mem1 (Q := fun u => DatOk w104 u) (((ownDat_ok (rows_own (f := Cn.cs) (m := 1) hb39 (fun u hu => ((mem1 (Q := fun u => CnOk w104 u) (((ownCn_ok (rows_own (f := Ty.cs) (m := 1) hb32 (fun u hu => ((mem1 (Q := fun u => TyOk u) unitTy_ok) u hu).size) rfl (by decide)) (mem1 (Q := fun u => TyOk u) unitTy_ok))).keep (Below.refl _ _))) u hu).size) rfl (by decide)) (mem1 (Q := fun u => CnOk w104 u) (((ownCn_ok (rows_own (f := Ty.cs) (m := 1) hb32 (fun u hu => ((mem1 (Q := fun u => TyOk u) unitTy_ok) u hu).size) rfl (by decide)) (mem1 (Q := fun u => TyOk u) unitTy_ok))).keep (Below.refl _ _))))).keep (Below.refl _ _))) u hu).size) rfl (by decide)) (by decide) (fun u hu => (((mem1 (Q := fun u => DatOk w104 u) (((ownDat_ok (rows_own (f := Cn.cs) (m := 1) hb39 (fun u hu => ((mem1 (Q := fun u => CnOk w104 u) (((ownCn_ok (rows_own (f := Ty.cs) (m := 1) hb32 (fun u hu => ((mem1 (Q := fun u => TyOk u) unitTy_ok) u hu).size) rfl (by decide)) (mem1 (Q := fun u => TyOk u) unitTy_ok))).keep (Below.refl _ _))) u hu).size) rfl (by decide)) (mem1 (Q := fun u => CnOk w104 u) (((ownCn_ok (rows_own (f := Ty.cs) (m := 1) hb32 (fun u hu => ((mem1 (Q := fun u => TyOk u) unitTy_ok) u hu).size) rfl (by decide)) (mem1 (Q := fun u => TyOk u) unitTy_ok))).keep (Below.refl _ _))))).keep (Below.refl _ _)))) u hu).one) (by simp; omega) (by simp; omega) rfl (fun va30 w105 hO36 hA30 => ?_)
                    replace hO36 : OwnR 52 2 Dat.cs w105 va30 (p.dats ++ [(ownDat name (.slice (some ⟨b39, 0, none⟩) 1 1) [(ownCn con (.slice (some ⟨b32, 0, none⟩) 1 1) [unitTy])])]) := hO36
                    replace hb1 := hA30.old hb1 (hO35.neT hb1 rfl)
                    replace hb2 := hA30.old hb2 (hO35.neT hb2 rfl)
                    replace hb8 := hA30.old hb8 (hO35.neT hb8 rfl)
                    replace hb21 := hA30.old hb21 (hO35.neT hb21 rfl)
                    replace hb32 := hA30.old hb32 (hO35.neT hb32 rfl)
                    replace hb39 := hA30.old hb39 (hO35.neT hb39 rfl)
                    clear hb42
                    have ghO36 := hA30.ge hB.size ghO35
                    replace hB := hA30.below hB hB.size ghO35
                    refine At.ops0 ?_
                    refine At.wpcN .nil ?_
                    refine At.wpcS (i := 13) (d := 114) (.pointer (some ⟨b21, 0 + 1, none⟩)) (by kernel_rfl) rfl rfl rfl (fun Lx => ?_) ?_
                    · skip
                      refine At.fieldAddr rfl fo35_1 rfl ?_
                      refine At.ops0 ?_
                      exact fun a ha => ⟨ha, rfl⟩
                    refine At.wpcE [14] (by kernel_rfl) (by kernel_rfl) (.cons [] rfl (by kernel_rfl) ?_ .nil)
                    refine At.store1 rfl rfl hb21 sz23 (by rw [(hp).size]; decide) (hO36).one (fun w106 S23 => ?_)
                    replace hb1 := S23.other hb1 n_b1_b21
                    replace hb2 := S23.other hb2 n_b2_b21
                    replace hb8 := S23.other hb8 n_b8_b21
                    replace hb32 := S23.other hb32 n_b21_b32.symm
                    replace hb39 := S23.other hb39 n_b21_b39.symm
                    replace hO36 := hO36.set S23 (hO36.neT hb21 rfl)
                    replace hb21 : w106.heap[b21]? = some (.cells (Pr.withDats p va30 (p.dats ++ [(ownDat name (.slice (some ⟨b39, 0, none⟩) 1 1) [(ownCn con (.slice (some ⟨b32, 0, none⟩) 1 1) [unitTy])])])).cs 35) := S23.new
                    replace hB := S23.below' hB gb21
                    refine At.ops0 ?_
                    refine At.wpcN .nil ?_
                    refine At.wpcZ ?_
                    exact At.joinedG (va30, (ownDat name (.slice (some ⟨b39, 0, none⟩) 1 1) [(ownCn con (.slice (some ⟨b32, 0, none⟩) 1 1) [unitTy])]), (ownCn con (.slice (some ⟨b32, 0, none⟩) 1 1) [unitTy])) (Sub.cons rfl (Sub.cons rfl (Sub.cons rfl (Sub.cons rfl (Sub.cons rfl (Sub.cons rfl (Sub.cons rfl (Sub.cons rfl (Sub.cons rfl (Sub.cons rfl Sub.nil)))))))))) ⟨hB, hb21, (((PrOk.withDats ((hp).keep hB) (((OwnR.rows hO36 (fun u hu => (((all_app (Q := fun u => DatOk w106 u) (fun u hu => ((hp).datOk u hu).keep hB) (mem1 (Q := fun u => DatOk w106 u) (((ownDat_ok (rows_own (f := Cn.cs) (m := 1) hb39 (fun u hu => ((mem1 (Q := fun u => CnOk w106 u) (((ownCn_ok (rows_own (f := Ty.cs) (m := 1) hb32 (fun u hu => ((mem1 (Q := fun u => TyOk u) unitTy_ok) u hu).size) rfl (by decide)) (mem1 (Q := fun u => TyOk u) unitTy_ok))).keep (Below.refl _ _))) u hu).size) rfl (by decide)) (mem1 (Q := fun u => CnOk w106 u) (((ownCn_ok (rows_own (f := Ty.cs) (m := 1) hb32 (fun u hu => ((mem1 (Q := fun u => TyOk u) unitTy_ok) u hu).size) rfl (by decide)) (mem1 (Q := fun u => TyOk u) unitTy_ok))).keep (Below.refl _ _))))).keep (Below.refl _ _))))) u hu).size))).keep (Below.refl _ _)) ((all_app (Q := fun u => DatOk w106 u) (fun u hu => ((hp).datOk u hu).keep hB) (mem1 (Q := fun u => DatOk w106 u) (((ownDat_ok (rows_own (f := Cn.cs) (m := 1) hb39 (fun u hu => ((mem1 (Q := fun u => CnOk w106 u) (((ownCn_ok (rows_own (f := Ty.cs) (m := 1) hb32 (fun u hu => ((mem1 (Q := fun u => TyOk u) unitTy_ok) u hu).size) rfl (by decide)) (mem1 (Q := fun u => TyOk u) unitTy_ok))).keep (Below.refl _ _))) u hu).size) rfl (by decide)) (mem1 (Q := fun u => CnOk w106 u) (((ownCn_ok (rows_own (f := Ty.cs) (m := 1) hb32 (fun u hu => ((mem1 (Q := fun u => TyOk u) unitTy_ok) u hu).size) rfl (by decide)) (mem1 (Q := fun u => TyOk u) unitTy_ok))).keep (Below.refl _ _))))).keep (Below.refl _ _))))))).keep (Below.refl _ _)), rfl, rfl, rfl, rfl⟩
                · skip
                  refine At.buildSlice (xs := [.tmp 111]) rfl rfl el23 sz52 ze52 (by intro v hv; simp only [List.mem_cons, List.not_mem_nil, or_false] at hv; rcases hv with rfl <;> first | rfl | simp [Value.cells, ((ownDat_ok (rows_own (f := Cn.cs) (m := 1) hb39 (fun u hu => ((mem1 (Q := fun u => CnOk w97 u) (((ownCn_ok (rows_own (f := Ty.cs) (m := 1) hb32 (fun u hu => ((mem1 (Q := fun u => TyOk u) unitTy_ok) u hu).size) rfl (by decide)) (mem1 (Q := fun u => TyOk u) unitTy_ok))).keep (Below.refl _ _))) u hu).size) rfl (by decide)) (mem1 (Q := fun u => CnOk w97 u) (((ownCn_ok (rows_own (f := Ty.cs) (m := 1) hb32 (fun u hu => ((mem1 (Q := fun u => TyOk u) unitTy_ok) u hu).size) rfl (by decide)) (mem1 (Q := fun u => TyOk u) unitTy_ok))).keep (Below.refl _ _))))).size]) rfl (by decide) rfl (fun b43 w107 F43 => ?_)
                  have n_b1_b43 : b1 ≠ b43 := Nat.ne_of_lt (F43.lt hb1)
                  have n_b2_b43 : b2 ≠ b43 := Nat.ne_of_lt (F43.lt hb2)
                  have n_b8_b43 : b8 ≠ b43 := Nat.ne_of_lt (F43.lt hb8)
                  have n_b21_b43 : b21 ≠ b43 := Nat.ne_of_lt (F43.lt hb21)
                  have n_b32_b43 : b32 ≠ b43 := Nat.ne_of_lt (F43.lt hb32)
                  have n_b39_b43 : b39 ≠ b43 := Nat.ne_of_lt (F43.lt hb39)
                  have gb43 := F43.ge hB
                  replace hb1 := F43.old hb1
                  replace hb2 := F43.old hb2
                  replace hb8 := F43.old hb8
                  replace hb21 := F43.old hb21
                  replace hb32 := F43.old hb32
                  replace hb39 := F43.old hb39
                  have hb43 : w107.heap[b43]? = some (.cells (([(ownDat name (.slice (some ⟨b39, 0, none⟩) 1 1) [(ownCn con (.slice (some ⟨b32, 0, none⟩) 1 1) [unitTy])])].map Dat.cs).flatMap (·.toList)).toArray 52) := F43.new
                  replace hB := F43.below' hB
                  refine At.ops0 ?_
                  refine At.wpcN (.cons rfl rfl rfl rfl (fun Lx => ?_) (.cons rfl rfl rfl rfl (fun Lx => ?_) .nil)) ?_
                  · skip
                    refine At.fieldAddr rfl fo35_1 rfl ?_
                    refine At.ops0 ?_
                    exact fun a ha => ⟨ha, rfl⟩
                  · skip
                    refine At.load rfl (Ld.ownCell ag23 hb1 (hp).c1) rfl ?_
                    refine At.ops0 ?_
                    exact fun a ha => ⟨ha, rfl⟩
                  refine At.wpcE [0] (by kernel_rfl) (by kernel_rfl) (.cons [1, 2] rfl (by kernel_rfl) ?_ .nil)
                  refine At.buildSlice (xs := []) rfl rfl el23 sz52 ze52 (by simp) rfl (by decide) rfl (fun b44 w108 F44 => ?_)
                  have n_b1_b44 : b1 ≠ b44 := Nat.ne_of_lt (F44.lt hb1)
                  have n_b2_b44 : b2 ≠ b44 := Nat.ne_of_lt (F44.lt hb2)
                  have n_b8_b44 : b8 ≠ b44 := Nat.ne_of_lt (F44.lt hb8)
                  have n_b21_b44 : b21 ≠ b44 := Nat.ne_of_lt (F44.lt hb21)
                  have n_b32_b44 : b32 ≠ b44 := Nat.ne_of_lt (F44.lt hb32)
                  have n_b39_b44 : b39 ≠ b44 := Nat.ne_of_lt (F44.lt hb39)
                  have n_b43_b44 : b43 ≠ b44 := Nat.ne_of_lt (F44.lt hb43)
                  have gb44 := F44.ge hB
                  replace hb1 := F44.old hb1
                  replace hb2 := F44.old hb2
                  replace hb8 := F44.old hb8
                  replace hb21 := F44.old hb21
                  replace hb32 := F44.old hb32
                  replace hb39 := F44.old hb39
                  replace hb43 := F44.old hb43
                  have hb44 : w108.heap[b44]? = some (.cells #[] 52) := F44.new
                  replace hB := F44.below' hB
                  have hO37 : OwnR 52 2 Dat.cs w108 (.slice (some ⟨b44, 0, none⟩) 0 0) [] := OwnR.made hb44
                  have ghO37 : ∀ g, Value.ownBlock (.slice (some ⟨b44, 0, none⟩) 0 0) = some g → w.heap.size ≤ g := fun g h => by cases h; exact gb44
                  have qhO37_b1 : some b1 ≠ Value.ownBlock (.slice (some ⟨b44, 0, none⟩) 0 0) := fun e => n_b1_b44 (Option.some.inj e)
                  have qhO37_b2 : some b2 ≠ Value.ownBlock (.slice (some ⟨b44, 0, none⟩) 0 0) := fun e => n_b2_b44 (Option.some.inj e)
                  have qhO37_b8 : some b8 ≠ Value.ownBlock (.slice (some ⟨b44, 0, none⟩) 0 0) := fun e => n_b8_b44 (Option.some.inj e)
                  have qhO37_b21 : some b21 ≠ Value.ownBlock (.slice (some ⟨b44, 0, none⟩) 0 0) := fun e => n_b21_b44 (Option.some.inj e)
                  have qhO37_b32 : some b32 ≠ Value.ownBlock (.slice (some ⟨b44, 0, none⟩) 0 0) := fun e => n_b32_b44 (Option.some.inj e)
                  have qhO37_b39 : some b39 ≠ Value.ownBlock (.slice (some ⟨b44, 0, none⟩) 0 0) := fun e => n_b39_b44 (Option.some.inj e)
                  have qhO37_b43 : some b43 ≠ Value.ownBlock (.slice (some ⟨b44, 0, none⟩) 0 0) := fun e => n_b43_b44 (Option.some.inj e)
                  clear hb44
                  refine At.ops0 ?_
                  refine At.wpcN (.cons rfl rfl rfl rfl (fun Lx => ?_) (.cons rfl rfl rfl rfl (fun Lx => ?_) .nil)) ?_
                  · skip
                    refine At.fieldAddr rfl fo35_1 rfl ?_
                    refine At.ops0 ?_
                    exact fun a ha => ⟨ha, rfl⟩
                  · skip
                    refine At.load rfl (Ld.ownCell ag23 hb1 (hp).c1) rfl ?_
                    refine At.ops0 ?_
                    exact fun a ha => ⟨ha, rfl⟩
                  refine At.wpcE [3] (by kernel_rfl) (by kernel_rfl) (.cons [] rfl (by kernel_rfl) ?_ .nil)
                  refine At.appendR (f := Dat.cs) rfl rfl el23 el23 sz52 by52 ze52 rfl hO37 (((hp).datsAt).keep hB) (by decide) (fun u hu => (((fun u hu => ((hp).datOk u hu).keep hB)) u hu).one) (by simp; omega) (by simp; omega) rfl (fun va31 w109 hO38 hA31 => ?_)
                  replace hO38 : OwnR 52 2 Dat.cs w109 va31 p.dats := hO38
                  replace hb1 := hA31.old hb1 (hO37.neT hb1 rfl)
                  replace hb2 := hA31.old hb2 (hO37.neT hb2 rfl)
                  replace hb8 := hA31.old hb8 (hO37.neT hb8 rfl)
                  replace hb21 := hA31.old hb21 (hO37.neT hb21 rfl)
                  replace hb32 := hA31.old hb32 (hO37.neT hb32 rfl)
                  replace hb39 := hA31.old hb39 (hO37.neT hb39 rfl)
                  have q_hO38_b43 : some b43 ≠ Value.ownBlock va31 := Moved.ne hA31.blk (Array.getElem?_eq_some_iff.1 hb43).1 qhO37_b43
                  replace hb43 := hA31.old hb43 qhO37_b43
                  have ghO38 := hA31.ge hB.size ghO37
                  replace hB := hA31.below hB hB.size ghO37
                  refine At.ops0 ?_
                  refine At.wpcN .nil ?_
                  refine At.wpcE [12] (by kernel_rfl) (by kernel_rfl) (.cons [] rfl (by kernel_rfl) ?_ .nil)
                  refine At.appendR (f := Dat.cs) rfl rfl el23 el23 sz52 by52 ze52 rfl hO38 (rows_own (f := Dat.cs) (m := 1) hb43 (fun u hu => ((mem1 (Q := fun u => DatOk w109 u) (((ownDat_ok (rows_own (f := Cn.cs) (m := 1) hb39 (fun u hu => ((mem1 (Q := fun u => CnOk w109 u) (((ownCn_ok (rows_own (f := Ty.cs) (m := 1) hb32 (fun u hu => ((mem1 (Q := fun u => TyOk u) unitTy_ok) u hu).size) rfl (by decide)) (mem1 (Q := fun u => TyOk u) unitTy_ok))).keep (Below.refl _ _))) u hu).size) rfl (by decide)) (mem1 (Q := fun u => CnOk w109 u) (((ownCn_ok (rows_own (f := Ty.cs) (m := 1) hb32 (fun u hu => ((mem1 (Q := fun u => TyOk u) unitTy_ok) u hu).size) rfl (by decide)) (mem1 (Q := fun u => TyOk u) unitTy_ok))).keep (Below.refl _ _))))).keep (Below.refl _ _))) u hu).size) rfl (by decide)) (by decide) (fun u hu => (((mem1 (Q := fun u => DatOk w109 u) (((ownDat_ok (rows_own (f := Cn.cs) (m := 1) hb39 (fun u hu => ((mem1 (Q := fun u => CnOk w109 u) (((ownCn_ok (rows_own (f := Ty.cs) (m := 1) hb32 (fun u hu => ((mem1 (Q := fun u => TyOk u) unitTy_ok) u hu).size) rfl (by decide)) (mem1 (Q := fun u => TyOk u) unitTy_ok))).keep (Below.refl _ _))) u hu).size) rfl (by decide)) (mem1 (Q := fun u => CnOk w109 u) (((ownCn_ok (rows_own (f := Ty.cs) (m := 1) hb32 (fun u hu => ((mem1 (Q := fun u => TyOk u) unitTy_ok) u hu).size) rfl (by decide)) (mem1 (Q := fun u => TyOk u) unitTy_ok))).keep (Below.refl _ _))))).keep (Below.refl _ _)))) u hu).one) (by simp; omega) (by simp; omega) rfl (fun va32 w110 hO39 hA32 => ?_)
                  replace hO39 : OwnR 52 2 Dat.cs w110 va32 (p.dats ++ [(ownDat name (.slice (some ⟨b39, 0, none⟩) 1 1) [(ownCn con (.slice (some ⟨b32, 0, none⟩) 1 1) [unitTy])])]) := hO39
                  replace hb1 := hA32.old hb1 (hO38.neT hb1 rfl)
                  replace hb2 := hA32.old hb2 (hO38.neT hb2 rfl)
                  replace hb8 := hA32.old hb8 (hO38.neT hb8 rfl)
                  replace hb21 := hA32.old hb21 (hO38.neT hb21 rfl)
                  replace hb32 := hA32.old hb32 (hO38.neT hb32 rfl)
                  replace hb39 := hA32.old hb39 (hO38.neT hb39 rfl)
                  clear hb43
                  have ghO39 := hA32.ge hB.size ghO38
                  replace hB := hA32.below hB hB.size ghO38
                  refine At.ops0 ?_
                  refine At.wpcN .nil ?_
                  refine At.wpcS (i := 13) (d := 114) (.pointer (some ⟨b21, 0 + 1, none⟩)) (by kernel_rfl) rfl rfl rfl (fun Lx => ?_) ?_
                  · skip
                    refine At.fieldAddr rfl fo35_1 rfl ?_
                    refine At.ops0 ?_
                    exact fun a ha => ⟨ha, rfl⟩
                  refine At.wpcE [14] (by kernel_rfl) (by kernel_rfl) (.cons [] rfl (by kernel_rfl) ?_ .nil)
                  refine At.store1 rfl rfl hb21 sz23 (by rw [(hp).size]; decide) (hO39).one (fun w111 S24 => ?_)
                  replace hb1 := S24.other hb1 n_b1_b21
                  replace hb2 := S24.other hb2 n_b2_b21
                  replace hb8 := S24.other hb8 n_b8_b21
                  replace hb32 := S24.other hb32 n_b21_b32.symm
                  replace hb39 := S24.other hb39 n_b21_b39.symm
                  replace hO39 := hO39.set S24 (hO39.neT hb21 rfl)
                  replace hb21 : w111.heap[b21]? = some (.cells (Pr.withDats p va32 (p.dats ++ [(ownDat name (.slice (some ⟨b39, 0, none⟩) 1 1) [(ownCn con (.slice (some ⟨b32, 0, none⟩) 1 1) [unitTy])])])).cs 35) := S24.new
                  replace hB := S24.below' hB gb21
                  refine At.ops0 ?_
                  refine At.wpcN .nil ?_
                  refine At.wpcZ ?_
                  exact At.joinedG (va32, (ownDat name (.slice (some ⟨b39, 0, none⟩) 1 1) [(ownCn con (.slice (some ⟨b32, 0, none⟩) 1 1) [unitTy])]), (ownCn con (.slice (some ⟨b32, 0, none⟩) 1 1) [unitTy])) (Sub.cons rfl (Sub.cons rfl (Sub.cons rfl (Sub.cons rfl (Sub.cons rfl (Sub.cons rfl (Sub.cons rfl (Sub.cons rfl (Sub.cons rfl (Sub.cons rfl Sub.nil)))))))))) ⟨hB, hb21, (((PrOk.withDats ((hp).keep hB) (((OwnR.rows hO39 (fun u hu => (((all_app (Q := fun u => DatOk w111 u) (fun u hu => ((hp).datOk u hu).keep hB) (mem1 (Q := fun u => DatOk w111 u) (((ownDat_ok (rows_own (f := Cn.cs) (m := 1) hb39 (fun u hu => ((mem1 (Q := fun u => CnOk w111 u) (((ownCn_ok (rows_own (f := Ty.cs) (m := 1) hb32 (fun u hu => ((mem1 (Q := fun u => TyOk u) unitTy_ok) u hu).size) rfl (by decide)) (mem1 (Q := fun u => TyOk u) unitTy_ok))).keep (Below.refl _ _))) u hu).size) rfl (by decide)) (mem1 (Q := fun u => CnOk w111 u) (((ownCn_ok (rows_own (f := Ty.cs) (m := 1) hb32 (fun u hu => ((mem1 (Q := fun u => TyOk u) unitTy_ok) u hu).size) rfl (by decide)) (mem1 (Q := fun u => TyOk u) unitTy_ok))).keep (Below.refl _ _))))).keep (Below.refl _ _))))) u hu).size))).keep (Below.refl _ _)) ((all_app (Q := fun u => DatOk w111 u) (fun u hu => ((hp).datOk u hu).keep hB) (mem1 (Q := fun u => DatOk w111 u) (((ownDat_ok (rows_own (f := Cn.cs) (m := 1) hb39 (fun u hu => ((mem1 (Q := fun u => CnOk w111 u) (((ownCn_ok (rows_own (f := Ty.cs) (m := 1) hb32 (fun u hu => ((mem1 (Q := fun u => TyOk u) unitTy_ok) u hu).size) rfl (by decide)) (mem1 (Q := fun u => TyOk u) unitTy_ok))).keep (Below.refl _ _))) u hu).size) rfl (by decide)) (mem1 (Q := fun u => CnOk w111 u) (((ownCn_ok (rows_own (f := Ty.cs) (m := 1) hb32 (fun u hu => ((mem1 (Q := fun u => TyOk u) unitTy_ok) u hu).size) rfl (by decide)) (mem1 (Q := fun u => TyOk u) unitTy_ok))).keep (Below.refl _ _))))).keep (Below.refl _ _))))))).keep (Below.refl _ _)), rfl, rfl, rfl, rfl⟩
          · skip
            obtain ⟨vq2, dq_, kq_⟩ := gh
            clear hB hb1 hb2 hb8 hb21
            obtain ⟨hB, hb21, hq2, hdn, hdo, hkn, hkf⟩ := hS
            show At _ _ [(1, .string name), (2, .string op), (3, .string con), (9, .bool true), (14, .bool ((findHd p.effs name).isSome)), (17, .bool ((findEff p.effs op).isSome)), (20, .bool ((findCon p.dats con).isSome)), (21, .bool (p.dats.any (datIs name))), (25, .int .i64 ((checkP (Pr.withEffs p vq (p.effs ++ [eq_]))).2)), (26, .pointer (some ⟨b21, 0, none⟩))] _ _
            refine At.thenN ?_
            refine At.seq ?_
            refine At.region ?_
            refine At.load rfl (Ld.own ag35 (sz35.trans (congrArg some (hq2).size.symm)) hb21) rfl ?_
            refine At.call en12 rfl rfl (check_any (Pr.withDats p vq2 (p.dats ++ [dq_])) _ ((hq2).keep (Below.refl _ _)) (hs.withDats.sz (by simp [datW, cnW, hdo, hkf]; omega)) (Nat.le_trans (show wtT (Pr.body p) ≤ 1048576 from Nat.le_trans hs.body hc) (by decide))) (fun e w112 hR => ?_)
            obtain ⟨rfl, hbl8⟩ := hR
            refine ⟨_, rfl, ?_⟩
            replace hb21 := Below.old hbl8 hb21
            replace hB := Below.andThen hB hbl8
            refine At.move rfl rfl ?_
            refine At.extract rfl rfl rfl ?_
            refine At.extract rfl rfl rfl ?_
            refine At.assign rfl rfl ?_
            refine At.assign rfl rfl ?_
            refine At.ops0 ?_
            refine At.thenN ?_
            refine At.seq ?_
            refine At.region ?_
            refine At.move rfl rfl ?_
            refine At.move rfl rfl ?_
            refine At.yes rfl rfl rfl rfl ?_
            refine At.move rfl rfl ?_
            refine At.yes rfl rfl rfl rfl ?_
            refine At.eqI rfl rfl rfl ?_
            refine At.yes rfl rfl rfl rfl ?_
            refine At.move rfl rfl ?_
            refine At.yes rfl rfl rfl rfl ?_
            refine At.not rfl rfl ?_
            refine At.yes rfl rfl rfl rfl ?_
            refine At.move rfl rfl ?_
            refine At.cases ((!(findHd p.effs name).isSome)) (fun hg2 => ?_) (fun hg2 => ?_)
            · skip
              refine At.set (d := 126) (u := .bool true) rfl (congrArg Value.bool hg2) ?_
              refine At.yes rfl rfl rfl rfl ?_
              refine At.move rfl rfl ?_
              refine At.yes rfl rfl rfl rfl ?_
              refine At.not rfl rfl ?_
              refine At.yes rfl rfl rfl rfl ?_
              refine At.pickT rfl rfl rfl ?_
              refine At.yes rfl rfl rfl rfl ?_
              refine At.move rfl rfl ?_
              refine At.cases ((!(findEff p.effs op).isSome)) (fun hg3 => ?_) (fun hg3 => ?_)
              · skip
                refine At.set (d := 130) (u := .bool true) rfl (congrArg Value.bool hg3) ?_
                refine At.yes rfl rfl rfl rfl ?_
                refine At.move rfl rfl ?_
                refine At.yes rfl rfl rfl rfl ?_
                refine At.neS rfl rfl rfl ?_
                refine At.yes rfl rfl rfl rfl ?_
                refine At.pickT rfl rfl rfl ?_
                refine At.yes rfl rfl rfl rfl ?_
                refine At.move rfl rfl ?_
                refine At.cases ((!decide (name = (⟨#[99, 111, 110, 115, 111, 108, 101]⟩ : ByteArray)))) (fun hg4 => ?_) (fun hg4 => ?_)
                · skip
                  refine At.set (d := 134) (u := .bool true) rfl (congrArg Value.bool hg4) ?_
                  have hg4' := hg4; simp only [Bool.not_eq_true', Bool.not_eq_false', decide_eq_true_eq, decide_eq_false_iff_not] at hg4'
                  refine At.yes rfl rfl rfl rfl ?_
                  refine At.move rfl rfl ?_
                  refine At.yes rfl rfl rfl rfl ?_
                  refine At.neS rfl rfl rfl ?_
                  refine At.yes rfl rfl rfl rfl ?_
                  refine At.pickT rfl rfl rfl ?_
                  refine At.yes rfl rfl rfl rfl ?_
                  refine At.move rfl rfl ?_
                  refine At.cases ((!decide (name = (⟨#[]⟩ : ByteArray)))) (fun hg5 => ?_) (fun hg5 => ?_)
                  · skip
                    refine At.set (d := 138) (u := .bool true) rfl (congrArg Value.bool hg5) ?_
                    have hg5' := hg5; simp only [Bool.not_eq_true', Bool.not_eq_false', decide_eq_true_eq, decide_eq_false_iff_not] at hg5'
                    refine At.yes rfl rfl rfl rfl ?_
                    refine At.move rfl rfl ?_
                    refine At.yes rfl rfl rfl rfl ?_
                    refine At.neS rfl rfl rfl ?_
                    refine At.yes rfl rfl rfl rfl ?_
                    refine At.pickT rfl rfl rfl ?_
                    refine At.yes rfl rfl rfl rfl ?_
                    refine At.eqB rfl rfl bo4 rfl ?_
                    refine At.pickT rfl rfl rfl ?_
                    refine At.move rfl rfl ?_
                    have hbb1 : (decide (decide ((checkP (Pr.withEffs p vq (p.effs ++ [eq_]))).2 = 0) = (!decide (op = (⟨#[]⟩ : ByteArray))))) = true := by rw [more_eff hok hlen.1 heo]; simp [hen, con_, hg2, hg3, hg4, hg5]
                    refine At.set (d := 144) (u := .bool true) rfl (congrArg Value.bool hbb1) ?_
                    refine At.yes rfl rfl rfl rfl ?_
                    refine At.move rfl rfl ?_
                    refine At.yes rfl rfl rfl rfl ?_
                    refine At.eqI rfl rfl rfl ?_
                    refine At.yes rfl rfl rfl rfl ?_
                    refine At.move rfl rfl ?_
                    refine At.yes rfl rfl rfl rfl ?_
                    refine At.not rfl rfl ?_
                    refine At.yes rfl rfl rfl rfl ?_
                    refine At.move rfl rfl ?_
                    refine At.cases ((!(p.dats.any (datIs name)))) (fun hg6 => ?_) (fun hg6 => ?_)
                    · skip
                      refine At.set (d := 149) (u := .bool true) rfl (congrArg Value.bool hg6) ?_
                      refine At.yes rfl rfl rfl rfl ?_
                      refine At.move rfl rfl ?_
                      refine At.yes rfl rfl rfl rfl ?_
                      refine At.not rfl rfl ?_
                      refine At.yes rfl rfl rfl rfl ?_
                      refine At.pickT rfl rfl rfl ?_
                      refine At.yes rfl rfl rfl rfl ?_
                      refine At.move rfl rfl ?_
                      refine At.cases ((!(findCon p.dats con).isSome)) (fun hg7 => ?_) (fun hg7 => ?_)
                      · skip
                        refine At.set (d := 153) (u := .bool true) rfl (congrArg Value.bool hg7) ?_
                        refine At.yes rfl rfl rfl rfl ?_
                        refine At.move rfl rfl ?_
                        refine At.yes rfl rfl rfl rfl ?_
                        refine At.neS rfl rfl rfl ?_
                        refine At.yes rfl rfl rfl rfl ?_
                        refine At.pickT rfl rfl rfl ?_
                        refine At.yes rfl rfl rfl rfl ?_
                        refine At.move rfl rfl ?_
                        refine At.set (d := 157) (u := .bool true) rfl (congrArg Value.bool hg4) ?_
                        refine At.yes rfl rfl rfl rfl ?_
                        refine At.move rfl rfl ?_
                        refine At.yes rfl rfl rfl rfl ?_
                        refine At.neS rfl rfl rfl ?_
                        refine At.yes rfl rfl rfl rfl ?_
                        refine At.pickT rfl rfl rfl ?_
                        refine At.yes rfl rfl rfl rfl ?_
                        refine At.move rfl rfl ?_
                        refine At.set (d := 161) (u := .bool true) rfl (congrArg Value.bool hg5) ?_
                        refine At.yes rfl rfl rfl rfl ?_
                        refine At.move rfl rfl ?_
                        refine At.yes rfl rfl rfl rfl ?_
                        refine At.neS rfl rfl rfl ?_
                        refine At.yes rfl rfl rfl rfl ?_
                        refine At.pickT rfl rfl rfl ?_
                        refine At.yes rfl rfl rfl rfl ?_
                        refine At.eqB rfl rfl bo4 rfl ?_
                        refine At.pickT rfl rfl rfl ?_
                        refine At.assign rfl rfl ?_
                        refine At.ops0 ?_
                        refine At.thenN ?_
                        refine At.retc ?_
                        refine At.doneR (ResV.tmp rfl ResV.nil) ?_
                        exact ⟨congrArg Ending.returned (congrArg Value.bool (by rw [more_dat hok hdo hkn hkf]; simp [hdn, con_, hg2, hg3, hg4, hg5, hg6, hg7])), hB⟩
                      · skip
                        refine At.set (d := 153) (u := .bool false) rfl (congrArg Value.bool hg7) ?_
                        refine At.no rfl rfl rfl rfl rfl rfl rfl ?_
                        refine At.no rfl rfl rfl rfl rfl rfl rfl ?_
                        refine At.yes rfl rfl rfl rfl ?_
                        refine At.pickF rfl rfl rfl ?_
                        refine At.yes rfl rfl rfl rfl ?_
                        refine At.move rfl rfl ?_
                        refine At.no rfl rfl rfl rfl rfl rfl rfl ?_
                        refine At.no rfl rfl rfl rfl rfl rfl rfl ?_
                        refine At.yes rfl rfl rfl rfl ?_
                        refine At.pickF rfl rfl rfl ?_
                        refine At.yes rfl rfl rfl rfl ?_
                        refine At.move rfl rfl ?_
                        refine At.no rfl rfl rfl rfl rfl rfl rfl ?_
                        refine At.no rfl rfl rfl rfl rfl rfl rfl ?_
                        refine At.yes rfl rfl rfl rfl ?_
                        refine At.pickF rfl rfl rfl ?_
                        refine At.yes rfl rfl rfl rfl ?_
                        refine At.eqB rfl rfl bo4 rfl ?_
                        refine At.pickT rfl rfl rfl ?_
                        refine At.assign rfl rfl ?_
                        refine At.ops0 ?_
                        refine At.thenN ?_
                        refine At.retc ?_
                        refine At.doneR (ResV.tmp rfl ResV.nil) ?_
                        exact ⟨congrArg Ending.returned (congrArg Value.bool (by rw [more_dat hok hdo hkn hkf]; simp [hdn, con_, hg2, hg3, hg4, hg5, hg6, hg7])), hB⟩
                    · skip
                      refine At.set (d := 149) (u := .bool false) rfl (congrArg Value.bool hg6) ?_
                      refine At.no rfl rfl rfl rfl rfl rfl rfl ?_
                      refine At.no rfl rfl rfl rfl rfl rfl rfl ?_
                      refine At.yes rfl rfl rfl rfl ?_
                      refine At.pickF rfl rfl rfl ?_
                      refine At.yes rfl rfl rfl rfl ?_
                      refine At.move rfl rfl ?_
                      refine At.no rfl rfl rfl rfl rfl rfl rfl ?_
                      refine At.no rfl rfl rfl rfl rfl rfl rfl ?_
                      refine At.yes rfl rfl rfl rfl ?_
                      refine At.pickF rfl rfl rfl ?_
                      refine At.yes rfl rfl rfl rfl ?_
                      refine At.move rfl rfl ?_
                      refine At.no rfl rfl rfl rfl rfl rfl rfl ?_
                      refine At.no rfl rfl rfl rfl rfl rfl rfl ?_
                      refine At.yes rfl rfl rfl rfl ?_
                      refine At.pickF rfl rfl rfl ?_
                      refine At.yes rfl rfl rfl rfl ?_
                      refine At.move rfl rfl ?_
                      refine At.no rfl rfl rfl rfl rfl rfl rfl ?_
                      refine At.no rfl rfl rfl rfl rfl rfl rfl ?_
                      refine At.yes rfl rfl rfl rfl ?_
                      refine At.pickF rfl rfl rfl ?_
                      refine At.yes rfl rfl rfl rfl ?_
                      refine At.eqB rfl rfl bo4 rfl ?_
                      refine At.pickT rfl rfl rfl ?_
                      refine At.assign rfl rfl ?_
                      refine At.ops0 ?_
                      refine At.thenN ?_
                      refine At.retc ?_
                      refine At.doneR (ResV.tmp rfl ResV.nil) ?_
                      exact ⟨congrArg Ending.returned (congrArg Value.bool (by rw [more_dat hok hdo hkn hkf]; simp [hdn, con_, hg2, hg3, hg4, hg5, hg6])), hB⟩
                  · skip
                    refine At.set (d := 138) (u := .bool false) rfl (congrArg Value.bool hg5) ?_
                    have hg5' := hg5; simp only [Bool.not_eq_true', Bool.not_eq_false', decide_eq_true_eq, decide_eq_false_iff_not] at hg5'
                    refine At.no rfl rfl rfl rfl rfl rfl rfl ?_
                    refine At.no rfl rfl rfl rfl rfl rfl rfl ?_
                    refine At.yes rfl rfl rfl rfl ?_
                    refine At.pickF rfl rfl rfl ?_
                    refine At.yes rfl rfl rfl rfl ?_
                    refine At.eqB rfl rfl bo4 rfl ?_
                    refine At.pickT rfl rfl rfl ?_
                    refine At.move rfl rfl ?_
                    have hbb2 : (decide (decide ((checkP (Pr.withEffs p vq (p.effs ++ [eq_]))).2 = 0) = false)) = true := by rw [more_eff hok hlen.1 heo]; simp [hen, con_, hg2, hg3, hg4, hg5]
                    refine At.set (d := 144) (u := .bool true) rfl (congrArg Value.bool hbb2) ?_
                    refine At.yes rfl rfl rfl rfl ?_
                    refine At.move rfl rfl ?_
                    refine At.yes rfl rfl rfl rfl ?_
                    refine At.eqI rfl rfl rfl ?_
                    refine At.yes rfl rfl rfl rfl ?_
                    refine At.move rfl rfl ?_
                    refine At.yes rfl rfl rfl rfl ?_
                    refine At.not rfl rfl ?_
                    refine At.yes rfl rfl rfl rfl ?_
                    refine At.move rfl rfl ?_
                    refine At.cases ((!(p.dats.any (datIs name)))) (fun hg8 => ?_) (fun hg8 => ?_)
                    · skip
                      refine At.set (d := 149) (u := .bool true) rfl (congrArg Value.bool hg8) ?_
                      refine At.yes rfl rfl rfl rfl ?_
                      refine At.move rfl rfl ?_
                      refine At.yes rfl rfl rfl rfl ?_
                      refine At.not rfl rfl ?_
                      refine At.yes rfl rfl rfl rfl ?_
                      refine At.pickT rfl rfl rfl ?_
                      refine At.yes rfl rfl rfl rfl ?_
                      refine At.move rfl rfl ?_
                      refine At.cases ((!(findCon p.dats con).isSome)) (fun hg9 => ?_) (fun hg9 => ?_)
                      · skip
                        refine At.set (d := 153) (u := .bool true) rfl (congrArg Value.bool hg9) ?_
                        refine At.yes rfl rfl rfl rfl ?_
                        refine At.move rfl rfl ?_
                        refine At.yes rfl rfl rfl rfl ?_
                        refine At.neS rfl rfl rfl ?_
                        refine At.yes rfl rfl rfl rfl ?_
                        refine At.pickT rfl rfl rfl ?_
                        refine At.yes rfl rfl rfl rfl ?_
                        refine At.move rfl rfl ?_
                        refine At.set (d := 157) (u := .bool true) rfl (congrArg Value.bool hg4) ?_
                        refine At.yes rfl rfl rfl rfl ?_
                        refine At.move rfl rfl ?_
                        refine At.yes rfl rfl rfl rfl ?_
                        refine At.neS rfl rfl rfl ?_
                        refine At.yes rfl rfl rfl rfl ?_
                        refine At.pickT rfl rfl rfl ?_
                        refine At.yes rfl rfl rfl rfl ?_
                        refine At.move rfl rfl ?_
                        refine At.set (d := 161) (u := .bool false) rfl (congrArg Value.bool hg5) ?_
                        refine At.no rfl rfl rfl rfl rfl rfl rfl ?_
                        refine At.no rfl rfl rfl rfl rfl rfl rfl ?_
                        refine At.yes rfl rfl rfl rfl ?_
                        refine At.pickF rfl rfl rfl ?_
                        refine At.yes rfl rfl rfl rfl ?_
                        refine At.eqB rfl rfl bo4 rfl ?_
                        refine At.pickT rfl rfl rfl ?_
                        refine At.assign rfl rfl ?_
                        refine At.ops0 ?_
                        refine At.thenN ?_
                        refine At.retc ?_
                        refine At.doneR (ResV.tmp rfl ResV.nil) ?_
                        exact ⟨congrArg Ending.returned (congrArg Value.bool (by rw [more_dat hok hdo hkn hkf]; simp [hdn, con_, hg2, hg3, hg4, hg5, hg8, hg9])), hB⟩
                      · skip
                        refine At.set (d := 153) (u := .bool false) rfl (congrArg Value.bool hg9) ?_
                        refine At.no rfl rfl rfl rfl rfl rfl rfl ?_
                        refine At.no rfl rfl rfl rfl rfl rfl rfl ?_
                        refine At.yes rfl rfl rfl rfl ?_
                        refine At.pickF rfl rfl rfl ?_
                        refine At.yes rfl rfl rfl rfl ?_
                        refine At.move rfl rfl ?_
                        refine At.no rfl rfl rfl rfl rfl rfl rfl ?_
                        refine At.no rfl rfl rfl rfl rfl rfl rfl ?_
                        refine At.yes rfl rfl rfl rfl ?_
                        refine At.pickF rfl rfl rfl ?_
                        refine At.yes rfl rfl rfl rfl ?_
                        refine At.move rfl rfl ?_
                        refine At.no rfl rfl rfl rfl rfl rfl rfl ?_
                        refine At.no rfl rfl rfl rfl rfl rfl rfl ?_
                        refine At.yes rfl rfl rfl rfl ?_
                        refine At.pickF rfl rfl rfl ?_
                        refine At.yes rfl rfl rfl rfl ?_
                        refine At.eqB rfl rfl bo4 rfl ?_
                        refine At.pickT rfl rfl rfl ?_
                        refine At.assign rfl rfl ?_
                        refine At.ops0 ?_
                        refine At.thenN ?_
                        refine At.retc ?_
                        refine At.doneR (ResV.tmp rfl ResV.nil) ?_
                        exact ⟨congrArg Ending.returned (congrArg Value.bool (by rw [more_dat hok hdo hkn hkf]; simp [hdn, con_, hg2, hg3, hg4, hg5, hg8, hg9])), hB⟩
                    · skip
                      refine At.set (d := 149) (u := .bool false) rfl (congrArg Value.bool hg8) ?_
                      refine At.no rfl rfl rfl rfl rfl rfl rfl ?_
                      refine At.no rfl rfl rfl rfl rfl rfl rfl ?_
                      refine At.yes rfl rfl rfl rfl ?_
                      refine At.pickF rfl rfl rfl ?_
                      refine At.yes rfl rfl rfl rfl ?_
                      refine At.move rfl rfl ?_
                      refine At.no rfl rfl rfl rfl rfl rfl rfl ?_
                      refine At.no rfl rfl rfl rfl rfl rfl rfl ?_
                      refine At.yes rfl rfl rfl rfl ?_
                      refine At.pickF rfl rfl rfl ?_
                      refine At.yes rfl rfl rfl rfl ?_
                      refine At.move rfl rfl ?_
                      refine At.no rfl rfl rfl rfl rfl rfl rfl ?_
                      refine At.no rfl rfl rfl rfl rfl rfl rfl ?_
                      refine At.yes rfl rfl rfl rfl ?_
                      refine At.pickF rfl rfl rfl ?_
                      refine At.yes rfl rfl rfl rfl ?_
                      refine At.move rfl rfl ?_
                      refine At.no rfl rfl rfl rfl rfl rfl rfl ?_
                      refine At.no rfl rfl rfl rfl rfl rfl rfl ?_
                      refine At.yes rfl rfl rfl rfl ?_
                      refine At.pickF rfl rfl rfl ?_
                      refine At.yes rfl rfl rfl rfl ?_
                      refine At.eqB rfl rfl bo4 rfl ?_
                      refine At.pickT rfl rfl rfl ?_
                      refine At.assign rfl rfl ?_
                      refine At.ops0 ?_
                      refine At.thenN ?_
                      refine At.retc ?_
                      refine At.doneR (ResV.tmp rfl ResV.nil) ?_
                      exact ⟨congrArg Ending.returned (congrArg Value.bool (by rw [more_dat hok hdo hkn hkf]; simp [hdn, con_, hg2, hg3, hg4, hg5, hg8])), hB⟩
                · skip
                  refine At.set (d := 134) (u := .bool false) rfl (congrArg Value.bool hg4) ?_
                  have hg4' := hg4; simp only [Bool.not_eq_true', Bool.not_eq_false', decide_eq_true_eq, decide_eq_false_iff_not] at hg4'
                  refine At.no rfl rfl rfl rfl rfl rfl rfl ?_
                  refine At.no rfl rfl rfl rfl rfl rfl rfl ?_
                  refine At.yes rfl rfl rfl rfl ?_
                  refine At.pickF rfl rfl rfl ?_
                  refine At.yes rfl rfl rfl rfl ?_
                  refine At.move rfl rfl ?_
                  refine At.no rfl rfl rfl rfl rfl rfl rfl ?_
                  refine At.no rfl rfl rfl rfl rfl rfl rfl ?_
                  refine At.yes rfl rfl rfl rfl ?_
                  refine At.pickF rfl rfl rfl ?_
                  refine At.yes rfl rfl rfl rfl ?_
                  refine At.eqB rfl rfl bo4 rfl ?_
                  refine At.pickT rfl rfl rfl ?_
                  refine At.move rfl rfl ?_
                  have hbb3 : (decide (decide ((checkP (Pr.withEffs p vq (p.effs ++ [eq_]))).2 = 0) = false)) = true := by rw [more_eff hok hlen.1 heo]; simp [hen, con_, hg2, hg3, hg4]
                  refine At.set (d := 144) (u := .bool true) rfl (congrArg Value.bool hbb3) ?_
                  refine At.yes rfl rfl rfl rfl ?_
                  refine At.move rfl rfl ?_
                  refine At.yes rfl rfl rfl rfl ?_
                  refine At.eqI rfl rfl rfl ?_
                  refine At.yes rfl rfl rfl rfl ?_
                  refine At.move rfl rfl ?_
                  refine At.yes rfl rfl rfl rfl ?_
                  refine At.not rfl rfl ?_
                  refine At.yes rfl rfl rfl rfl ?_
                  refine At.move rfl rfl ?_
                  refine At.cases ((!(p.dats.any (datIs name)))) (fun hg10 => ?_) (fun hg10 => ?_)
                  · skip
                    refine At.set (d := 149) (u := .bool true) rfl (congrArg Value.bool hg10) ?_
                    refine At.yes rfl rfl rfl rfl ?_
                    refine At.move rfl rfl ?_
                    refine At.yes rfl rfl rfl rfl ?_
                    refine At.not rfl rfl ?_
                    refine At.yes rfl rfl rfl rfl ?_
                    refine At.pickT rfl rfl rfl ?_
                    refine At.yes rfl rfl rfl rfl ?_
                    refine At.move rfl rfl ?_
                    refine At.cases ((!(findCon p.dats con).isSome)) (fun hg11 => ?_) (fun hg11 => ?_)
                    · skip
                      refine At.set (d := 153) (u := .bool true) rfl (congrArg Value.bool hg11) ?_
                      refine At.yes rfl rfl rfl rfl ?_
                      refine At.move rfl rfl ?_
                      refine At.yes rfl rfl rfl rfl ?_
                      refine At.neS rfl rfl rfl ?_
                      refine At.yes rfl rfl rfl rfl ?_
                      refine At.pickT rfl rfl rfl ?_
                      refine At.yes rfl rfl rfl rfl ?_
                      refine At.move rfl rfl ?_
                      refine At.set (d := 157) (u := .bool false) rfl (congrArg Value.bool hg4) ?_
                      refine At.no rfl rfl rfl rfl rfl rfl rfl ?_
                      refine At.no rfl rfl rfl rfl rfl rfl rfl ?_
                      refine At.yes rfl rfl rfl rfl ?_
                      refine At.pickF rfl rfl rfl ?_
                      refine At.yes rfl rfl rfl rfl ?_
                      refine At.move rfl rfl ?_
                      refine At.no rfl rfl rfl rfl rfl rfl rfl ?_
                      refine At.no rfl rfl rfl rfl rfl rfl rfl ?_
                      refine At.yes rfl rfl rfl rfl ?_
                      refine At.pickF rfl rfl rfl ?_
                      refine At.yes rfl rfl rfl rfl ?_
                      refine At.eqB rfl rfl bo4 rfl ?_
                      refine At.pickT rfl rfl rfl ?_
                      refine At.assign rfl rfl ?_
                      refine At.ops0 ?_
                      refine At.thenN ?_
                      refine At.retc ?_
                      refine At.doneR (ResV.tmp rfl ResV.nil) ?_
                      exact ⟨congrArg Ending.returned (congrArg Value.bool (by rw [more_dat hok hdo hkn hkf]; simp [hdn, con_, hg2, hg3, hg4, hg10, hg11])), hB⟩
                    · skip
                      refine At.set (d := 153) (u := .bool false) rfl (congrArg Value.bool hg11) ?_
                      refine At.no rfl rfl rfl rfl rfl rfl rfl ?_
                      refine At.no rfl rfl rfl rfl rfl rfl rfl ?_
                      refine At.yes rfl rfl rfl rfl ?_
                      refine At.pickF rfl rfl rfl ?_
                      refine At.yes rfl rfl rfl rfl ?_
                      refine At.move rfl rfl ?_
                      refine At.no rfl rfl rfl rfl rfl rfl rfl ?_
                      refine At.no rfl rfl rfl rfl rfl rfl rfl ?_
                      refine At.yes rfl rfl rfl rfl ?_
                      refine At.pickF rfl rfl rfl ?_
                      refine At.yes rfl rfl rfl rfl ?_
                      refine At.move rfl rfl ?_
                      refine At.no rfl rfl rfl rfl rfl rfl rfl ?_
                      refine At.no rfl rfl rfl rfl rfl rfl rfl ?_
                      refine At.yes rfl rfl rfl rfl ?_
                      refine At.pickF rfl rfl rfl ?_
                      refine At.yes rfl rfl rfl rfl ?_
                      refine At.eqB rfl rfl bo4 rfl ?_
                      refine At.pickT rfl rfl rfl ?_
                      refine At.assign rfl rfl ?_
                      refine At.ops0 ?_
                      refine At.thenN ?_
                      refine At.retc ?_
                      refine At.doneR (ResV.tmp rfl ResV.nil) ?_
                      exact ⟨congrArg Ending.returned (congrArg Value.bool (by rw [more_dat hok hdo hkn hkf]; simp [hdn, con_, hg2, hg3, hg4, hg10, hg11])), hB⟩
                  · skip
                    refine At.set (d := 149) (u := .bool false) rfl (congrArg Value.bool hg10) ?_
                    refine At.no rfl rfl rfl rfl rfl rfl rfl ?_
                    refine At.no rfl rfl rfl rfl rfl rfl rfl ?_
                    refine At.yes rfl rfl rfl rfl ?_
                    refine At.pickF rfl rfl rfl ?_
                    refine At.yes rfl rfl rfl rfl ?_
                    refine At.move rfl rfl ?_
                    refine At.no rfl rfl rfl rfl rfl rfl rfl ?_
                    refine At.no rfl rfl rfl rfl rfl rfl rfl ?_
                    refine At.yes rfl rfl rfl rfl ?_
                    refine At.pickF rfl rfl rfl ?_
                    refine At.yes rfl rfl rfl rfl ?_
                    refine At.move rfl rfl ?_
                    refine At.no rfl rfl rfl rfl rfl rfl rfl ?_
                    refine At.no rfl rfl rfl rfl rfl rfl rfl ?_
                    refine At.yes rfl rfl rfl rfl ?_
                    refine At.pickF rfl rfl rfl ?_
                    refine At.yes rfl rfl rfl rfl ?_
                    refine At.move rfl rfl ?_
                    refine At.no rfl rfl rfl rfl rfl rfl rfl ?_
                    refine At.no rfl rfl rfl rfl rfl rfl rfl ?_
                    refine At.yes rfl rfl rfl rfl ?_
                    refine At.pickF rfl rfl rfl ?_
                    refine At.yes rfl rfl rfl rfl ?_
                    refine At.eqB rfl rfl bo4 rfl ?_
                    refine At.pickT rfl rfl rfl ?_
                    refine At.assign rfl rfl ?_
                    refine At.ops0 ?_
                    refine At.thenN ?_
                    refine At.retc ?_
                    refine At.doneR (ResV.tmp rfl ResV.nil) ?_
                    exact ⟨congrArg Ending.returned (congrArg Value.bool (by rw [more_dat hok hdo hkn hkf]; simp [hdn, con_, hg2, hg3, hg4, hg10])), hB⟩
              · skip
                refine At.set (d := 130) (u := .bool false) rfl (congrArg Value.bool hg3) ?_
                refine At.no rfl rfl rfl rfl rfl rfl rfl ?_
                refine At.no rfl rfl rfl rfl rfl rfl rfl ?_
                refine At.yes rfl rfl rfl rfl ?_
                refine At.pickF rfl rfl rfl ?_
                refine At.yes rfl rfl rfl rfl ?_
                refine At.move rfl rfl ?_
                refine At.no rfl rfl rfl rfl rfl rfl rfl ?_
                refine At.no rfl rfl rfl rfl rfl rfl rfl ?_
                refine At.yes rfl rfl rfl rfl ?_
                refine At.pickF rfl rfl rfl ?_
                refine At.yes rfl rfl rfl rfl ?_
                refine At.move rfl rfl ?_
                refine At.no rfl rfl rfl rfl rfl rfl rfl ?_
                refine At.no rfl rfl rfl rfl rfl rfl rfl ?_
                refine At.yes rfl rfl rfl rfl ?_
                refine At.pickF rfl rfl rfl ?_
                refine At.yes rfl rfl rfl rfl ?_
                refine At.eqB rfl rfl bo4 rfl ?_
                refine At.pickT rfl rfl rfl ?_
                refine At.move rfl rfl ?_
                have hbb4 : (decide (decide ((checkP (Pr.withEffs p vq (p.effs ++ [eq_]))).2 = 0) = false)) = true := by rw [more_eff hok hlen.1 heo]; simp [hen, con_, hg2, hg3]
                refine At.set (d := 144) (u := .bool true) rfl (congrArg Value.bool hbb4) ?_
                refine At.yes rfl rfl rfl rfl ?_
                refine At.move rfl rfl ?_
                refine At.yes rfl rfl rfl rfl ?_
                refine At.eqI rfl rfl rfl ?_
                refine At.yes rfl rfl rfl rfl ?_
                refine At.move rfl rfl ?_
                refine At.yes rfl rfl rfl rfl ?_
                refine At.not rfl rfl ?_
                refine At.yes rfl rfl rfl rfl ?_
                refine At.move rfl rfl ?_
                refine At.cases ((!(p.dats.any (datIs name)))) (fun hg12 => ?_) (fun hg12 => ?_)
                · skip
                  refine At.set (d := 149) (u := .bool true) rfl (congrArg Value.bool hg12) ?_
                  refine At.yes rfl rfl rfl rfl ?_
                  refine At.move rfl rfl ?_
                  refine At.yes rfl rfl rfl rfl ?_
                  refine At.not rfl rfl ?_
                  refine At.yes rfl rfl rfl rfl ?_
                  refine At.pickT rfl rfl rfl ?_
                  refine At.yes rfl rfl rfl rfl ?_
                  refine At.move rfl rfl ?_
                  refine At.cases ((!(findCon p.dats con).isSome)) (fun hg13 => ?_) (fun hg13 => ?_)
                  · skip
                    refine At.set (d := 153) (u := .bool true) rfl (congrArg Value.bool hg13) ?_
                    refine At.yes rfl rfl rfl rfl ?_
                    refine At.move rfl rfl ?_
                    refine At.yes rfl rfl rfl rfl ?_
                    refine At.neS rfl rfl rfl ?_
                    refine At.yes rfl rfl rfl rfl ?_
                    refine At.pickT rfl rfl rfl ?_
                    refine At.yes rfl rfl rfl rfl ?_
                    refine At.move rfl rfl ?_
                    refine At.cases ((!decide (name = (⟨#[99, 111, 110, 115, 111, 108, 101]⟩ : ByteArray)))) (fun hg14 => ?_) (fun hg14 => ?_)
                    · skip
                      refine At.set (d := 157) (u := .bool true) rfl (congrArg Value.bool hg14) ?_
                      have hg14' := hg14; simp only [Bool.not_eq_true', Bool.not_eq_false', decide_eq_true_eq, decide_eq_false_iff_not] at hg14'
                      refine At.yes rfl rfl rfl rfl ?_
                      refine At.move rfl rfl ?_
                      refine At.yes rfl rfl rfl rfl ?_
                      refine At.neS rfl rfl rfl ?_
                      refine At.yes rfl rfl rfl rfl ?_
                      refine At.pickT rfl rfl rfl ?_
                      refine At.yes rfl rfl rfl rfl ?_
                      refine At.move rfl rfl ?_
                      refine At.cases ((!decide (name = (⟨#[]⟩ : ByteArray)))) (fun hg15 => ?_) (fun hg15 => ?_)
                      · skip
                        refine At.set (d := 161) (u := .bool true) rfl (congrArg Value.bool hg15) ?_
                        have hg15' := hg15; simp only [Bool.not_eq_true', Bool.not_eq_false', decide_eq_true_eq, decide_eq_false_iff_not] at hg15'
                        refine At.yes rfl rfl rfl rfl ?_
                        refine At.move rfl rfl ?_
                        refine At.yes rfl rfl rfl rfl ?_
                        refine At.neS rfl rfl rfl ?_
                        refine At.yes rfl rfl rfl rfl ?_
                        refine At.pickT rfl rfl rfl ?_
                        refine At.yes rfl rfl rfl rfl ?_
                        refine At.eqB rfl rfl bo4 rfl ?_
                        refine At.pickT rfl rfl rfl ?_
                        refine At.assign rfl rfl ?_
                        refine At.ops0 ?_
                        refine At.thenN ?_
                        refine At.retc ?_
                        refine At.doneR (ResV.tmp rfl ResV.nil) ?_
                        exact ⟨congrArg Ending.returned (congrArg Value.bool (by rw [more_dat hok hdo hkn hkf]; simp [hdn, con_, hg2, hg3, hg12, hg13, hg14, hg15])), hB⟩
                      · skip
                        refine At.set (d := 161) (u := .bool false) rfl (congrArg Value.bool hg15) ?_
                        have hg15' := hg15; simp only [Bool.not_eq_true', Bool.not_eq_false', decide_eq_true_eq, decide_eq_false_iff_not] at hg15'
                        refine At.no rfl rfl rfl rfl rfl rfl rfl ?_
                        refine At.no rfl rfl rfl rfl rfl rfl rfl ?_
                        refine At.yes rfl rfl rfl rfl ?_
                        refine At.pickF rfl rfl rfl ?_
                        refine At.yes rfl rfl rfl rfl ?_
                        refine At.eqB rfl rfl bo4 rfl ?_
                        refine At.pickT rfl rfl rfl ?_
                        refine At.assign rfl rfl ?_
                        refine At.ops0 ?_
                        refine At.thenN ?_
                        refine At.retc ?_
                        refine At.doneR (ResV.tmp rfl ResV.nil) ?_
                        exact ⟨congrArg Ending.returned (congrArg Value.bool (by rw [more_dat hok hdo hkn hkf]; simp [hdn, con_, hg2, hg3, hg12, hg13, hg14, hg15])), hB⟩
                    · skip
                      refine At.set (d := 157) (u := .bool false) rfl (congrArg Value.bool hg14) ?_
                      have hg14' := hg14; simp only [Bool.not_eq_true', Bool.not_eq_false', decide_eq_true_eq, decide_eq_false_iff_not] at hg14'
                      refine At.no rfl rfl rfl rfl rfl rfl rfl ?_
                      refine At.no rfl rfl rfl rfl rfl rfl rfl ?_
                      refine At.yes rfl rfl rfl rfl ?_
                      refine At.pickF rfl rfl rfl ?_
                      refine At.yes rfl rfl rfl rfl ?_
                      refine At.move rfl rfl ?_
                      refine At.no rfl rfl rfl rfl rfl rfl rfl ?_
                      refine At.no rfl rfl rfl rfl rfl rfl rfl ?_
                      refine At.yes rfl rfl rfl rfl ?_
                      refine At.pickF rfl rfl rfl ?_
                      refine At.yes rfl rfl rfl rfl ?_
                      refine At.eqB rfl rfl bo4 rfl ?_
                      refine At.pickT rfl rfl rfl ?_
                      refine At.assign rfl rfl ?_
                      refine At.ops0 ?_
                      refine At.thenN ?_
                      refine At.retc ?_
                      refine At.doneR (ResV.tmp rfl ResV.nil) ?_
                      exact ⟨congrArg Ending.returned (congrArg Value.bool (by rw [more_dat hok hdo hkn hkf]; simp [hdn, con_, hg2, hg3, hg12, hg13, hg14])), hB⟩
                  · skip
                    refine At.set (d := 153) (u := .bool false) rfl (congrArg Value.bool hg13) ?_
                    refine At.no rfl rfl rfl rfl rfl rfl rfl ?_
                    refine At.no rfl rfl rfl rfl rfl rfl rfl ?_
                    refine At.yes rfl rfl rfl rfl ?_
                    refine At.pickF rfl rfl rfl ?_
                    refine At.yes rfl rfl rfl rfl ?_
                    refine At.move rfl rfl ?_
                    refine At.no rfl rfl rfl rfl rfl rfl rfl ?_
                    refine At.no rfl rfl rfl rfl rfl rfl rfl ?_
                    refine At.yes rfl rfl rfl rfl ?_
                    refine At.pickF rfl rfl rfl ?_
                    refine At.yes rfl rfl rfl rfl ?_
                    refine At.move rfl rfl ?_
                    refine At.no rfl rfl rfl rfl rfl rfl rfl ?_
                    refine At.no rfl rfl rfl rfl rfl rfl rfl ?_
                    refine At.yes rfl rfl rfl rfl ?_
                    refine At.pickF rfl rfl rfl ?_
                    refine At.yes rfl rfl rfl rfl ?_
                    refine At.eqB rfl rfl bo4 rfl ?_
                    refine At.pickT rfl rfl rfl ?_
                    refine At.assign rfl rfl ?_
                    refine At.ops0 ?_
                    refine At.thenN ?_
                    refine At.retc ?_
                    refine At.doneR (ResV.tmp rfl ResV.nil) ?_
                    exact ⟨congrArg Ending.returned (congrArg Value.bool (by rw [more_dat hok hdo hkn hkf]; simp [hdn, con_, hg2, hg3, hg12, hg13])), hB⟩
                · skip
                  refine At.set (d := 149) (u := .bool false) rfl (congrArg Value.bool hg12) ?_
                  refine At.no rfl rfl rfl rfl rfl rfl rfl ?_
                  refine At.no rfl rfl rfl rfl rfl rfl rfl ?_
                  refine At.yes rfl rfl rfl rfl ?_
                  refine At.pickF rfl rfl rfl ?_
                  refine At.yes rfl rfl rfl rfl ?_
                  refine At.move rfl rfl ?_
                  refine At.no rfl rfl rfl rfl rfl rfl rfl ?_
                  refine At.no rfl rfl rfl rfl rfl rfl rfl ?_
                  refine At.yes rfl rfl rfl rfl ?_
                  refine At.pickF rfl rfl rfl ?_
                  refine At.yes rfl rfl rfl rfl ?_
                  refine At.move rfl rfl ?_
                  refine At.no rfl rfl rfl rfl rfl rfl rfl ?_
                  refine At.no rfl rfl rfl rfl rfl rfl rfl ?_
                  refine At.yes rfl rfl rfl rfl ?_
                  refine At.pickF rfl rfl rfl ?_
                  refine At.yes rfl rfl rfl rfl ?_
                  refine At.move rfl rfl ?_
                  refine At.no rfl rfl rfl rfl rfl rfl rfl ?_
                  refine At.no rfl rfl rfl rfl rfl rfl rfl ?_
                  refine At.yes rfl rfl rfl rfl ?_
                  refine At.pickF rfl rfl rfl ?_
                  refine At.yes rfl rfl rfl rfl ?_
                  refine At.eqB rfl rfl bo4 rfl ?_
                  refine At.pickT rfl rfl rfl ?_
                  refine At.assign rfl rfl ?_
                  refine At.ops0 ?_
                  refine At.thenN ?_
                  refine At.retc ?_
                  refine At.doneR (ResV.tmp rfl ResV.nil) ?_
                  exact ⟨congrArg Ending.returned (congrArg Value.bool (by rw [more_dat hok hdo hkn hkf]; simp [hdn, con_, hg2, hg3, hg12])), hB⟩
            · skip
              refine At.set (d := 126) (u := .bool false) rfl (congrArg Value.bool hg2) ?_
              refine At.no rfl rfl rfl rfl rfl rfl rfl ?_
              refine At.no rfl rfl rfl rfl rfl rfl rfl ?_
              refine At.yes rfl rfl rfl rfl ?_
              refine At.pickF rfl rfl rfl ?_
              refine At.yes rfl rfl rfl rfl ?_
              refine At.move rfl rfl ?_
              refine At.no rfl rfl rfl rfl rfl rfl rfl ?_
              refine At.no rfl rfl rfl rfl rfl rfl rfl ?_
              refine At.yes rfl rfl rfl rfl ?_
              refine At.pickF rfl rfl rfl ?_
              refine At.yes rfl rfl rfl rfl ?_
              refine At.move rfl rfl ?_
              refine At.no rfl rfl rfl rfl rfl rfl rfl ?_
              refine At.no rfl rfl rfl rfl rfl rfl rfl ?_
              refine At.yes rfl rfl rfl rfl ?_
              refine At.pickF rfl rfl rfl ?_
              refine At.yes rfl rfl rfl rfl ?_
              refine At.move rfl rfl ?_
              refine At.no rfl rfl rfl rfl rfl rfl rfl ?_
              refine At.no rfl rfl rfl rfl rfl rfl rfl ?_
              refine At.yes rfl rfl rfl rfl ?_
              refine At.pickF rfl rfl rfl ?_
              refine At.yes rfl rfl rfl rfl ?_
              refine At.eqB rfl rfl bo4 rfl ?_
              refine At.pickT rfl rfl rfl ?_
              refine At.move rfl rfl ?_
              have hbb5 : (decide (decide ((checkP (Pr.withEffs p vq (p.effs ++ [eq_]))).2 = 0) = false)) = true := by rw [more_eff hok hlen.1 heo]; simp [hen, con_, hg2]
              refine At.set (d := 144) (u := .bool true) rfl (congrArg Value.bool hbb5) ?_
              refine At.yes rfl rfl rfl rfl ?_
              refine At.move rfl rfl ?_
              refine At.yes rfl rfl rfl rfl ?_
              refine At.eqI rfl rfl rfl ?_
              refine At.yes rfl rfl rfl rfl ?_
              refine At.move rfl rfl ?_
              refine At.yes rfl rfl rfl rfl ?_
              refine At.not rfl rfl ?_
              refine At.yes rfl rfl rfl rfl ?_
              refine At.move rfl rfl ?_
              refine At.cases ((!(p.dats.any (datIs name)))) (fun hg16 => ?_) (fun hg16 => ?_)
              · skip
                refine At.set (d := 149) (u := .bool true) rfl (congrArg Value.bool hg16) ?_
                refine At.yes rfl rfl rfl rfl ?_
                refine At.move rfl rfl ?_
                refine At.yes rfl rfl rfl rfl ?_
                refine At.not rfl rfl ?_
                refine At.yes rfl rfl rfl rfl ?_
                refine At.pickT rfl rfl rfl ?_
                refine At.yes rfl rfl rfl rfl ?_
                refine At.move rfl rfl ?_
                refine At.cases ((!(findCon p.dats con).isSome)) (fun hg17 => ?_) (fun hg17 => ?_)
                · skip
                  refine At.set (d := 153) (u := .bool true) rfl (congrArg Value.bool hg17) ?_
                  refine At.yes rfl rfl rfl rfl ?_
                  refine At.move rfl rfl ?_
                  refine At.yes rfl rfl rfl rfl ?_
                  refine At.neS rfl rfl rfl ?_
                  refine At.yes rfl rfl rfl rfl ?_
                  refine At.pickT rfl rfl rfl ?_
                  refine At.yes rfl rfl rfl rfl ?_
                  refine At.move rfl rfl ?_
                  refine At.cases ((!decide (name = (⟨#[99, 111, 110, 115, 111, 108, 101]⟩ : ByteArray)))) (fun hg18 => ?_) (fun hg18 => ?_)
                  · skip
                    refine At.set (d := 157) (u := .bool true) rfl (congrArg Value.bool hg18) ?_
                    have hg18' := hg18; simp only [Bool.not_eq_true', Bool.not_eq_false', decide_eq_true_eq, decide_eq_false_iff_not] at hg18'
                    refine At.yes rfl rfl rfl rfl ?_
                    refine At.move rfl rfl ?_
                    refine At.yes rfl rfl rfl rfl ?_
                    refine At.neS rfl rfl rfl ?_
                    refine At.yes rfl rfl rfl rfl ?_
                    refine At.pickT rfl rfl rfl ?_
                    refine At.yes rfl rfl rfl rfl ?_
                    refine At.move rfl rfl ?_
                    refine At.cases ((!decide (name = (⟨#[]⟩ : ByteArray)))) (fun hg19 => ?_) (fun hg19 => ?_)
                    · skip
                      refine At.set (d := 161) (u := .bool true) rfl (congrArg Value.bool hg19) ?_
                      have hg19' := hg19; simp only [Bool.not_eq_true', Bool.not_eq_false', decide_eq_true_eq, decide_eq_false_iff_not] at hg19'
                      refine At.yes rfl rfl rfl rfl ?_
                      refine At.move rfl rfl ?_
                      refine At.yes rfl rfl rfl rfl ?_
                      refine At.neS rfl rfl rfl ?_
                      refine At.yes rfl rfl rfl rfl ?_
                      refine At.pickT rfl rfl rfl ?_
                      refine At.yes rfl rfl rfl rfl ?_
                      refine At.eqB rfl rfl bo4 rfl ?_
                      refine At.pickT rfl rfl rfl ?_
                      refine At.assign rfl rfl ?_
                      refine At.ops0 ?_
                      refine At.thenN ?_
                      refine At.retc ?_
                      refine At.doneR (ResV.tmp rfl ResV.nil) ?_
                      exact ⟨congrArg Ending.returned (congrArg Value.bool (by rw [more_dat hok hdo hkn hkf]; simp [hdn, con_, hg2, hg16, hg17, hg18, hg19])), hB⟩
                    · skip
                      refine At.set (d := 161) (u := .bool false) rfl (congrArg Value.bool hg19) ?_
                      have hg19' := hg19; simp only [Bool.not_eq_true', Bool.not_eq_false', decide_eq_true_eq, decide_eq_false_iff_not] at hg19'
                      refine At.no rfl rfl rfl rfl rfl rfl rfl ?_
                      refine At.no rfl rfl rfl rfl rfl rfl rfl ?_
                      refine At.yes rfl rfl rfl rfl ?_
                      refine At.pickF rfl rfl rfl ?_
                      refine At.yes rfl rfl rfl rfl ?_
                      refine At.eqB rfl rfl bo4 rfl ?_
                      refine At.pickT rfl rfl rfl ?_
                      refine At.assign rfl rfl ?_
                      refine At.ops0 ?_
                      refine At.thenN ?_
                      refine At.retc ?_
                      refine At.doneR (ResV.tmp rfl ResV.nil) ?_
                      exact ⟨congrArg Ending.returned (congrArg Value.bool (by rw [more_dat hok hdo hkn hkf]; simp [hdn, con_, hg2, hg16, hg17, hg18, hg19])), hB⟩
                  · skip
                    refine At.set (d := 157) (u := .bool false) rfl (congrArg Value.bool hg18) ?_
                    have hg18' := hg18; simp only [Bool.not_eq_true', Bool.not_eq_false', decide_eq_true_eq, decide_eq_false_iff_not] at hg18'
                    refine At.no rfl rfl rfl rfl rfl rfl rfl ?_
                    refine At.no rfl rfl rfl rfl rfl rfl rfl ?_
                    refine At.yes rfl rfl rfl rfl ?_
                    refine At.pickF rfl rfl rfl ?_
                    refine At.yes rfl rfl rfl rfl ?_
                    refine At.move rfl rfl ?_
                    refine At.no rfl rfl rfl rfl rfl rfl rfl ?_
                    refine At.no rfl rfl rfl rfl rfl rfl rfl ?_
                    refine At.yes rfl rfl rfl rfl ?_
                    refine At.pickF rfl rfl rfl ?_
                    refine At.yes rfl rfl rfl rfl ?_
                    refine At.eqB rfl rfl bo4 rfl ?_
                    refine At.pickT rfl rfl rfl ?_
                    refine At.assign rfl rfl ?_
                    refine At.ops0 ?_
                    refine At.thenN ?_
                    refine At.retc ?_
                    refine At.doneR (ResV.tmp rfl ResV.nil) ?_
                    exact ⟨congrArg Ending.returned (congrArg Value.bool (by rw [more_dat hok hdo hkn hkf]; simp [hdn, con_, hg2, hg16, hg17, hg18])), hB⟩
                · skip
                  refine At.set (d := 153) (u := .bool false) rfl (congrArg Value.bool hg17) ?_
                  refine At.no rfl rfl rfl rfl rfl rfl rfl ?_
                  refine At.no rfl rfl rfl rfl rfl rfl rfl ?_
                  refine At.yes rfl rfl rfl rfl ?_
                  refine At.pickF rfl rfl rfl ?_
                  refine At.yes rfl rfl rfl rfl ?_
                  refine At.move rfl rfl ?_
                  refine At.no rfl rfl rfl rfl rfl rfl rfl ?_
                  refine At.no rfl rfl rfl rfl rfl rfl rfl ?_
                  refine At.yes rfl rfl rfl rfl ?_
                  refine At.pickF rfl rfl rfl ?_
                  refine At.yes rfl rfl rfl rfl ?_
                  refine At.move rfl rfl ?_
                  refine At.no rfl rfl rfl rfl rfl rfl rfl ?_
                  refine At.no rfl rfl rfl rfl rfl rfl rfl ?_
                  refine At.yes rfl rfl rfl rfl ?_
                  refine At.pickF rfl rfl rfl ?_
                  refine At.yes rfl rfl rfl rfl ?_
                  refine At.eqB rfl rfl bo4 rfl ?_
                  refine At.pickT rfl rfl rfl ?_
                  refine At.assign rfl rfl ?_
                  refine At.ops0 ?_
                  refine At.thenN ?_
                  refine At.retc ?_
                  refine At.doneR (ResV.tmp rfl ResV.nil) ?_
                  exact ⟨congrArg Ending.returned (congrArg Value.bool (by rw [more_dat hok hdo hkn hkf]; simp [hdn, con_, hg2, hg16, hg17])), hB⟩
              · skip
                refine At.set (d := 149) (u := .bool false) rfl (congrArg Value.bool hg16) ?_
                refine At.no rfl rfl rfl rfl rfl rfl rfl ?_
                refine At.no rfl rfl rfl rfl rfl rfl rfl ?_
                refine At.yes rfl rfl rfl rfl ?_
                refine At.pickF rfl rfl rfl ?_
                refine At.yes rfl rfl rfl rfl ?_
                refine At.move rfl rfl ?_
                refine At.no rfl rfl rfl rfl rfl rfl rfl ?_
                refine At.no rfl rfl rfl rfl rfl rfl rfl ?_
                refine At.yes rfl rfl rfl rfl ?_
                refine At.pickF rfl rfl rfl ?_
                refine At.yes rfl rfl rfl rfl ?_
                refine At.move rfl rfl ?_
                refine At.no rfl rfl rfl rfl rfl rfl rfl ?_
                refine At.no rfl rfl rfl rfl rfl rfl rfl ?_
                refine At.yes rfl rfl rfl rfl ?_
                refine At.pickF rfl rfl rfl ?_
                refine At.yes rfl rfl rfl rfl ?_
                refine At.move rfl rfl ?_
                refine At.no rfl rfl rfl rfl rfl rfl rfl ?_
                refine At.no rfl rfl rfl rfl rfl rfl rfl ?_
                refine At.yes rfl rfl rfl rfl ?_
                refine At.pickF rfl rfl rfl ?_
                refine At.yes rfl rfl rfl rfl ?_
                refine At.eqB rfl rfl bo4 rfl ?_
                refine At.pickT rfl rfl rfl ?_
                refine At.assign rfl rfl ?_
                refine At.ops0 ?_
                refine At.thenN ?_
                refine At.retc ?_
                refine At.doneR (ResV.tmp rfl ResV.nil) ?_
                exact ⟨congrArg Ending.returned (congrArg Value.bool (by rw [more_dat hok hdo hkn hkf]; simp [hdn, con_, hg2, hg16])), hB⟩
end Go.Proofs.Ytkclfcdppnlkbaa
