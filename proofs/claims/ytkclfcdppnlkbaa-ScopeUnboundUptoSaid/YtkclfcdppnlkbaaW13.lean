/-
  The walks of put and of ScopeUnbound: what each call does, for every argument that lies so in memory. Written by a program of ours.
-/
import Derived.Test.YtkclfcdppnlkbaaW12
import Derived.Test.YtkclfcdppnlkbaaS13
set_option linter.unusedVariables false
set_option linter.unusedSimpArgs false
namespace Go.Proofs.Ytkclfcdppnlkbaa
open Go.RowKit
theorem by33 : bytesB Try.prog 33 = some 312 := by kernel_rfl
theorem by71 : bytesB Try.prog 71 = some 352 := by kernel_rfl
theorem en22 : entB Try.prog 22 = true := by kernel_rfl
theorem en24 : entB Try.prog 24 = true := by kernel_rfl
theorem sz24 : sizeB Try.prog 24 = some 1 := by kernel_rfl
theorem sz25 : sizeB Try.prog 25 = some 1 := by kernel_rfl
set_option maxHeartbeats 4000000 in
theorem put_step (name : ByteArray) (t : Tm) (n : Int) (w : World) (ht : TmOk w t) (hn0 : 0 < n) (hn1 : n ≤ 4611686018427387904) (hwl : wtT t ≤ 1073741824) (ih : ∀ (u : Tm), wtT u < wtT t → ∀ (n : Int) (w : World), TmOk w u → 0 < n → n ≤ 4611686018427387904 → Calls Try.prog 24 ([.agg u.cs, .int .i64 n, .string name] : List Value).toArray w fun e w' => ∃ t' n', e = .returned (.tuple #[.agg t'.cs, .int .i64 n']) ∧ Below w.heap.size w w' ∧ TmOk w' t' ∧ PutT w.heap.size u t' ∧ 0 ≤ n' ∧ n' ≤ n) :
    Calls Try.prog 24 ([.agg t.cs, .int .i64 n, .string name] : List Value).toArray w fun e w' => ∃ t' n', e = .returned (.tuple #[.agg t'.cs, .int .i64 n']) ∧ Below w.heap.size w w' ∧ TmOk w' t' ∧ PutT w.heap.size t t' ∧ 0 ≤ n' ∧ n' ≤ n := by
  have hkl := ht.kidsAt.lenL
  have hal := ht.armsAt.lenL
  have hkw := wt_kids t
  have haw := wt_arms t
  have hB := Below.refl w.heap.size w
  refine At.enter (N := 82) Try.func24 rfl rfl (by simp) [(0, .agg t.cs), (1, .int .i64 n), (2, .string name)] (by simp) ?_
  refine At.seq ?_
  refine At.region ?_
  refine At.box rfl rfl (fun b1 w1 F1 => ?_)
  have gb1 := F1.ge hB
  have hb1 : w1.heap[b1]? = some (.cells t.cs 33) := F1.new
  replace hB := F1.below' hB
  refine At.alloc ze33 rfl (fun b2 w2 F2 => ?_)
  have n_b1_b2 : b1 ≠ b2 := Nat.ne_of_lt (F2.lt hb1)
  have gb2 := F2.ge hB
  replace hb1 := F2.old hb1
  have hb2 : w2.heap[b2]? = some (.cells #[.int .i64 0, .int .i64 0, .string (⟨#[]⟩ : ByteArray), .string (⟨#[]⟩ : ByteArray), .int .i64 0, (.slice none 0 0), (.slice none 0 0), .int .i64 0, .string (⟨#[]⟩ : ByteArray), .int .i64 0, (.slice none 0 0), (.slice none 0 0), .int .i64 0, (.slice none 0 0), .int .i64 0, .int .i64 0, .string (⟨#[]⟩ : ByteArray), .int .i64 0, (.slice none 0 0), (.slice none 0 0), .int .i64 0] 33) := F2.new
  replace hB := F2.below' hB
  refine At.assign rfl rfl ?_
  refine At.ops0 ?_
  refine At.thenN ?_
  refine At.seq ?_
  refine At.region ?_
  refine At.move rfl rfl ?_
  refine At.subI rfl rfl rfl (by omega) ?_
  refine At.assign rfl rfl ?_
  refine At.ops0 ?_
  refine At.thenN ?_
  refine At.seq ?_
  refine At.seq ?_
  refine At.region ?_
  refine At.move rfl rfl ?_
  refine At.eqI rfl rfl rfl ?_
  refine At.ops0 ?_
  refine At.thenN ?_
  refine At.cond (b := decide ((n - 1) = 0)) rfl (fun hc1 => ?_) (fun hc1 => ?_)
  · skip
    have hc1' := of_decide_eq_true hc1
    refine At.seq ?_
    refine At.region ?_
    refine At.move rfl rfl ?_
    refine At.fieldAddr rfl fo33_1 rfl ?_
    refine At.load rfl (Ld.ownCell ag3 hb1 (ht).c1) rfl ?_
    refine At.build (C := #[.int .i64 1, .int .i64 t.at_, .string name, .string (⟨#[]⟩ : ByteArray), .int .i64 0, (.slice none 0 0), (.slice none 0 0), .int .i64 0, .string (⟨#[]⟩ : ByteArray), .int .i64 0, (.slice none 0 0), (.slice none 0 0), .int .i64 0, (.slice none 0 0), .int .i64 0, .int .i64 0, .string (⟨#[]⟩ : ByteArray), .int .i64 0, (.slice none 0 0), (.slice none 0 0), .int .i64 0]) sd33 ze33 rfl (Bld.cons fo33_0 rfl (by first | decide | exact Nat.le_of_ble_eq_true rfl) (Bld.cons fo33_2 rfl (by first | decide | exact Nat.le_of_ble_eq_true rfl) (Bld.cons fo33_1 rfl (by first | decide | exact Nat.le_of_ble_eq_true rfl) (Bld.nil _)))) rfl ?_
    refine At.storeAll rfl rfl hb2 sz33 rfl (by simp [Value.oneCell', ((SlOk.nil)).one, ((SlOk.nil)).one, ((SlOk.nil)).one, ((SlOk.nil)).one, ((SlOk.nil)).one, ((SlOk.nil)).one, ((SlOk.nil)).one]) (fun w3 S1 => ?_)
    replace hb1 := S1.other hb1 n_b1_b2
    replace hb2 : w3.heap[b2]? = some (.cells #[.int .i64 1, .int .i64 t.at_, .string name, .string (⟨#[]⟩ : ByteArray), .int .i64 0, (.slice none 0 0), (.slice none 0 0), .int .i64 0, .string (⟨#[]⟩ : ByteArray), .int .i64 0, (.slice none 0 0), (.slice none 0 0), .int .i64 0, (.slice none 0 0), .int .i64 0, .int .i64 0, .string (⟨#[]⟩ : ByteArray), .int .i64 0, (.slice none 0 0), (.slice none 0 0), .int .i64 0] 33) := S1.new
    replace hB := S1.below' hB gb2
    refine At.assign rfl rfl ?_
    refine At.ops0 ?_
    refine At.thenN ?_
    refine At.retc ?_
    refine At.thenR ?_
    refine At.doneR (ResV.cell rfl (Ld.own (C := #[.int .i64 1, .int .i64 t.at_, .string name, .string (⟨#[]⟩ : ByteArray), .int .i64 0, (.slice none 0 0), (.slice none 0 0), .int .i64 0, .string (⟨#[]⟩ : ByteArray), .int .i64 0, (.slice none 0 0), (.slice none 0 0), .int .i64 0, (.slice none 0 0), .int .i64 0, .int .i64 0, .string (⟨#[]⟩ : ByteArray), .int .i64 0, (.slice none 0 0), (.slice none 0 0), .int .i64 0]) ag33 sz33 hb2) (ResV.tmp rfl ResV.nil)) ?_
    exact ⟨ownTm 1 t.at_ name emp 0 (.slice none 0 0) [], 0, rfl, hB, ownTm_leaf _ _ _ _ _ _, PutT.leaf _ _ _ _, by omega, by omega⟩
  · skip
    have hc1' := of_decide_eq_false hc1
    refine At.skip ?_
    refine At.thenN ?_
    refine At.seq ?_
    refine At.region ?_
    refine At.load rfl (Ld.own ag33 (sz33.trans (congrArg some (ht).size.symm)) hb1) rfl ?_
    refine At.alloc ze33 rfl (fun b3 w4 F3 => ?_)
    have n_b1_b3 : b1 ≠ b3 := Nat.ne_of_lt (F3.lt hb1)
    have n_b2_b3 : b2 ≠ b3 := Nat.ne_of_lt (F3.lt hb2)
    have gb3 := F3.ge hB
    replace hb1 := F3.old hb1
    replace hb2 := F3.old hb2
    have hb3 : w4.heap[b3]? = some (.cells #[.int .i64 0, .int .i64 0, .string (⟨#[]⟩ : ByteArray), .string (⟨#[]⟩ : ByteArray), .int .i64 0, (.slice none 0 0), (.slice none 0 0), .int .i64 0, .string (⟨#[]⟩ : ByteArray), .int .i64 0, (.slice none 0 0), (.slice none 0 0), .int .i64 0, (.slice none 0 0), .int .i64 0, .int .i64 0, .string (⟨#[]⟩ : ByteArray), .int .i64 0, (.slice none 0 0), (.slice none 0 0), .int .i64 0] 33) := F3.new
    replace hB := F3.below' hB
    refine At.storeAll rfl rfl hb3 (sz33.trans (congrArg some (ht).size.symm)) (ht).size.symm (ht).one (fun w5 S2 => ?_)
    replace hb1 := S2.other hb1 n_b1_b3
    replace hb2 := S2.other hb2 n_b2_b3
    replace hb3 : w5.heap[b3]? = some (.cells t.cs 33) := S2.new
    replace hB := S2.below' hB gb3
    refine At.ops0 ?_
    refine At.thenN ?_
    refine At.seq ?_
    refine At.region ?_
    refine At.fieldAddr rfl fo33_5 rfl ?_
    refine At.store1 rfl rfl hb3 sz24 (by rw [(ht).size]; decide) (SlOk.nil).one (fun w6 S3 => ?_)
    replace hb1 := S3.other hb1 n_b1_b3
    replace hb2 := S3.other hb2 n_b2_b3
    replace hb3 : w6.heap[b3]? = some (.cells (t.cs.setIfInBounds 5 (.slice none 0 0)) 33) := S3.new
    replace hB := S3.below' hB gb3
    refine At.ops0 ?_
    refine At.thenN ?_
    refine At.seq ?_
    refine At.region ?_
    refine At.fieldAddr rfl fo33_6 rfl ?_
    refine At.store1 rfl rfl hb3 sz25 (by rw [(set_size (ht).size)]; decide) (SlOk.nil).one (fun w7 S4 => ?_)
    replace hb1 := S4.other hb1 n_b1_b3
    replace hb2 := S4.other hb2 n_b2_b3
    replace hb3 : w7.heap[b3]? = some (.cells (Tm.withKids t (.slice none 0 0) ([]) (.slice none 0 0) ([])).cs 33) := S4.new
    replace hB := S4.below' hB gb3
    refine At.ops0 ?_
    refine At.thenN ?_
    refine At.seq ?_
    refine At.seq ?_
    refine At.region ?_
    refine At.assign rfl rfl ?_
    refine At.ops0 ?_
    refine At.thenN ?_
    refine At.block ?_
    refine At.loop (Nat × Int × Value × List Tm) (fun (k, m, kv, ks) => [(1, .int .i64 m), (2, .string name), (3, .pointer (some ⟨b1, 0, none⟩)), (6, .pointer (some ⟨b2, 0, none⟩)), (8, .pointer (some ⟨b3, 0, none⟩)), (9, .int .i64 (k : Int))]) (fun (k, m, kv, ks) w8 => Below w.heap.size w w8 ∧ w8.heap[b1]? = some (.cells t.cs 33) ∧ w8.heap[b2]? = some (.cells #[.int .i64 0, .int .i64 0, .string (⟨#[]⟩ : ByteArray), .string (⟨#[]⟩ : ByteArray), .int .i64 0, (.slice none 0 0), (.slice none 0 0), .int .i64 0, .string (⟨#[]⟩ : ByteArray), .int .i64 0, (.slice none 0 0), (.slice none 0 0), .int .i64 0, (.slice none 0 0), .int .i64 0, .int .i64 0, .string (⟨#[]⟩ : ByteArray), .int .i64 0, (.slice none 0 0), (.slice none 0 0), .int .i64 0] 33) ∧ w8.heap[b3]? = some (.cells (Tm.withKids t kv ks (.slice none 0 0) ([])).cs 33) ∧ OwnR 33 21 Tm.cs w8 kv ks ∧ Xs kTm [some b1, some b2, some b3, Value.ownBlock kv] w8 ks ∧ (some b1 ≠ Value.ownBlock kv) ∧ (some b2 ≠ Value.ownBlock kv) ∧ (some b3 ≠ Value.ownBlock kv) ∧ (∀ g, kv.ownBlock = some g → w.heap.size ≤ g) ∧ (k ≤ t.kids.length) ∧ (0 ≤ m) ∧ (m ≤ n) ∧ (relL (PutT w.heap.size) (t.kids.take k) ks)) (fun (k, m, kv, ks) => t.kids.length - k) (0, (n - 1), .slice none 0 0, []) (Sub.cons rfl (Sub.cons rfl (Sub.cons rfl (Sub.cons rfl (Sub.cons rfl (Sub.cons rfl Sub.nil)))))) ⟨hB, hb1, hb2, hb3, OwnR.nil _ _ _ _, Xs.nil _ _ _, (by simp [Value.ownBlock]), (by simp [Value.ownBlock]), (by simp [Value.ownBlock]), (fun g h => by cases h), (Nat.zero_le _), (by omega), (by omega), (trivial)⟩ (fun gh w8 hI => ?_)
    obtain ⟨k, m, kv, ks⟩ := gh
    clear hB hb1 hb2 hb3
    obtain ⟨hB, hb1, hb2, hb3, hrK, hxK, hneK_b1, hneK_b2, hneK_b3, gK, hkb, hm0, hm1, hrel⟩ := hI
    show At _ _ [(1, .int .i64 m), (2, .string name), (3, .pointer (some ⟨b1, 0, none⟩)), (6, .pointer (some ⟨b2, 0, none⟩)), (8, .pointer (some ⟨b3, 0, none⟩)), (9, .int .i64 (k : Int))] _ _
    refine At.seq ?_
    refine At.seq ?_
    refine At.region ?_
    refine At.move rfl rfl ?_
    refine At.fieldAddr rfl fo33_5 rfl ?_
    refine At.load rfl (Ld.ownCell ag24 hb1 (ht).c5) rfl ?_
    refine At.lenSl rfl ((ht).kidsAt).okL el24 rfl ?_
    refine At.lss rfl rfl rfl ?_
    refine At.ops0 ?_
    refine At.thenN ?_
    refine At.cond (b := decide ((k : Int) < (t.kids.length : Int))) rfl (fun hc2 => ?_) (fun hc2 => ?_)
    · skip
      have hc2' := of_decide_eq_true hc2
      refine At.skip ?_
      refine At.thenN ?_
      refine At.seq ?_
      refine At.block ?_
      refine At.seq ?_
      obtain ⟨uK, huK⟩ := some_of_lt (l := t.kids) (i := k) (by omega)
      refine At.region ?_
      refine At.fieldAddr rfl fo33_5 rfl ?_
      refine At.load rfl (Ld.ownCell ag24 hb1 (ht).c5) rfl ?_
      refine At.move rfl rfl ?_
      refine At.indexAddr (i := k) rfl rfl ((ht).kidsAt).okL (lt_of_some huK) el24 sz33 rfl ?_
      refine At.load rfl (Ld.row ag33 (sz33.trans (congrArg some (((ht).kid huK)).size.symm)) ((((ht).kidsAt).row huK).keep hB)) rfl ?_
      refine At.alloc ze33 rfl (fun b4 w9 F4 => ?_)
      have q_hrK_b4 : some b4 ≠ Value.ownBlock kv := Own.neFresh hrK F4
      have n_b1_b4 : b1 ≠ b4 := Nat.ne_of_lt (F4.lt hb1)
      have n_b2_b4 : b2 ≠ b4 := Nat.ne_of_lt (F4.lt hb2)
      have n_b3_b4 : b3 ≠ b4 := Nat.ne_of_lt (F4.lt hb3)
      have gb4 := F4.ge hB
      replace hb1 := F4.old hb1
      replace hb2 := F4.old hb2
      replace hb3 := F4.old hb3
      replace hrK := hrK.fresh F4
      replace hxK := Xs.fresh hxK F4
      have hb4 : w9.heap[b4]? = some (.cells #[.int .i64 0, .int .i64 0, .string (⟨#[]⟩ : ByteArray), .string (⟨#[]⟩ : ByteArray), .int .i64 0, (.slice none 0 0), (.slice none 0 0), .int .i64 0, .string (⟨#[]⟩ : ByteArray), .int .i64 0, (.slice none 0 0), (.slice none 0 0), .int .i64 0, (.slice none 0 0), .int .i64 0, .int .i64 0, .string (⟨#[]⟩ : ByteArray), .int .i64 0, (.slice none 0 0), (.slice none 0 0), .int .i64 0] 33) := F4.new
      replace hB := F4.below' hB
      refine At.storeAll rfl rfl hb4 (sz33.trans (congrArg some (((ht).kid huK)).size.symm)) (((ht).kid huK)).size.symm (((ht).kid huK)).one (fun w10 S5 => ?_)
      replace hb1 := S5.other hb1 n_b1_b4
      replace hb2 := S5.other hb2 n_b2_b4
      replace hb3 := S5.other hb3 n_b3_b4
      replace hrK := hrK.set S5 q_hrK_b4
      replace hxK := Xs.set hxK S5 (by simp)
      replace hb4 : w10.heap[b4]? = some (.cells uK.cs 33) := S5.new
      replace hB := S5.below' hB gb4
      refine At.ops0 ?_
      refine At.thenN ?_
      refine At.seq ?_
      refine At.seq ?_
      refine At.region ?_
      refine At.move rfl rfl ?_
      refine At.gtr rfl rfl rfl ?_
      refine At.ops0 ?_
      refine At.thenN ?_
      refine At.cond (b := decide (0 < m)) rfl (fun hc3 => ?_) (fun hc3 => ?_)
      · skip
        have hc3' := of_decide_eq_true hc3
        refine At.region ?_
        refine At.load rfl (Ld.own ag33 (sz33.trans (congrArg some (((ht).kid huK)).size.symm)) hb4) rfl ?_
        refine At.move rfl rfl ?_
        refine At.move rfl rfl ?_
        have hMa1 : MOk w.heap.size [some b1, some b2, some b3, some b4, Value.ownBlock kv] := (MOk.blk gb1 (MOk.blk gb2 (MOk.blk gb3 (MOk.blk gb4 (MOk.own gK (MOk.nil _))))))
        have hMb1 : MLt w10.heap.size [some b1, some b2, some b3, some b4, Value.ownBlock kv] := (MLt.blk hb1 (MLt.blk hb2 (MLt.blk hb3 (MLt.blk hb4 (MLt.own hrK (MLt.nil _))))))
        have hsz1 := hB.size
        refine At.call en24 rfl rfl (ih uK (by have := wt_kid (List.mem_of_getElem? huK); omega) m _ ((((ht).kid huK)).keep hB) (by omega) (by omega)) (fun e w11 hR => ?_)
        obtain ⟨tq1, nq1, rfl, hbl1, hok1, hput1, hqn1, hqm1⟩ := hR
        refine ⟨_, rfl, ?_⟩
        have hx1 : Xs kTm [some b1, some b2, some b3, some b4, Value.ownBlock kv] w11 [tq1] := Xs.of_new (B := w.heap.size) hok1 (PutT.base hput1 ((ht).kid huK)) hMa1 hMb1
        replace hb1 := Below.old hbl1 hb1
        replace hb2 := Below.old hbl1 hb2
        replace hb3 := Below.old hbl1 hb3
        replace hb4 := Below.old hbl1 hb4
        replace hrK := hrK.below hbl1
        replace hxK := Xs.below hxK hbl1
        replace hB := Below.andThen hB hbl1
        refine At.move rfl rfl ?_
        refine At.extract rfl rfl rfl ?_
        refine At.extract rfl rfl rfl ?_
        refine At.storeAll rfl rfl hb4 (sz33.trans (congrArg some ((Xs.one hx1)).size.symm)) ((((ht).kid huK)).size.trans ((Xs.one hx1)).size.symm) ((Xs.one hx1)).one (fun w12 S6 => ?_)
        replace hb1 := S6.other hb1 n_b1_b4
        replace hb2 := S6.other hb2 n_b2_b4
        replace hb3 := S6.other hb3 n_b3_b4
        replace hrK := hrK.set S6 q_hrK_b4
        replace hxK := Xs.set hxK S6 (by simp)
        replace hx1 := Xs.set hx1 S6 (by simp)
        replace hb4 : w12.heap[b4]? = some (.cells tq1.cs 33) := S6.new
        replace hB := S6.below' hB gb4
        refine At.assign rfl rfl ?_
        refine At.ops0 ?_
        refine At.thenN ?_
        refine At.region ?_
        refine At.fieldAddr rfl fo33_5 rfl ?_
        refine At.load rfl (Ld.ownCell ag24 hb3 (withKids_c5 (ht).size)) rfl ?_
        refine At.load rfl (Ld.own ag33 (sz33.trans (congrArg some ((Xs.one hx1)).size.symm)) hb4) rfl ?_
        refine At.buildSlice (xs := [.tmp 47]) rfl rfl el24 sz33 ze33 (by intro v hv; simp only [List.mem_cons, List.not_mem_nil, or_false] at hv; rcases hv with rfl <;> first | rfl | simp [Value.cells, ((Xs.one hx1)).size]) rfl (by decide) rfl (fun b5 w13 F5 => ?_)
        have q_hrK_b5 : some b5 ≠ Value.ownBlock kv := Own.neFresh hrK F5
        have n_b1_b5 : b1 ≠ b5 := Nat.ne_of_lt (F5.lt hb1)
        have n_b2_b5 : b2 ≠ b5 := Nat.ne_of_lt (F5.lt hb2)
        have n_b3_b5 : b3 ≠ b5 := Nat.ne_of_lt (F5.lt hb3)
        have n_b4_b5 : b4 ≠ b5 := Nat.ne_of_lt (F5.lt hb4)
        have gb5 := F5.ge hB
        replace hb1 := F5.old hb1
        replace hb2 := F5.old hb2
        replace hb3 := F5.old hb3
        replace hb4 := F5.old hb4
        replace hrK := hrK.fresh F5
        replace hxK := Xs.fresh hxK F5
        replace hx1 := Xs.fresh hx1 F5
        have hb5 : w13.heap[b5]? = some (.cells (([tq1].map Tm.cs).flatMap (·.toList)).toArray 33) := F5.new
        replace hB := F5.below' hB
        refine At.appendR (f := Tm.cs) rfl rfl el24 el24 sz33 by33 ze33 rfl hrK (rows_tm (m := 1) hb5 (mem1 (Q := fun u => TmOk w13 u) (((Xs.one hx1)).keep (Below.refl _ _))) rfl (by decide)) (by decide) (fun u hu => (((mem1 (Q := fun u => TmOk w13 u) (((Xs.one hx1)).keep (Below.refl _ _)))) u hu).one) (by first | (simp only [List.length_cons, List.length_nil]; omega) | (have := relL_len hrel; simp only [List.length_take] at this; simp only [List.length_cons, List.length_nil]; omega) | (have := relL_len hrelA; simp only [List.length_take] at this; simp only [List.length_cons, List.length_nil]; omega)) (by first | (simp only [List.length_cons, List.length_nil]; omega) | (have := relL_len hrel; simp only [List.length_take] at this; simp only [List.length_cons, List.length_nil]; omega) | (have := relL_len hrelA; simp only [List.length_take] at this; simp only [List.length_cons, List.length_nil]; omega)) rfl (fun va1 w14 hO1 hA1 => ?_)
        replace hO1 : OwnR 33 21 Tm.cs w14 va1 (ks ++ [tq1]) := hO1
        have q_hO1_b1 : some b1 ≠ Value.ownBlock va1 := Moved.ne hA1.blk (Array.getElem?_eq_some_iff.1 hb1).1 hneK_b1
        replace hb1 := hA1.old hb1 hneK_b1
        have q_hO1_b2 : some b2 ≠ Value.ownBlock va1 := Moved.ne hA1.blk (Array.getElem?_eq_some_iff.1 hb2).1 hneK_b2
        replace hb2 := hA1.old hb2 hneK_b2
        have q_hO1_b3 : some b3 ≠ Value.ownBlock va1 := Moved.ne hA1.blk (Array.getElem?_eq_some_iff.1 hb3).1 hneK_b3
        replace hb3 := hA1.old hb3 hneK_b3
        have q_hO1_b4 : some b4 ≠ Value.ownBlock va1 := Moved.ne hA1.blk (Array.getElem?_eq_some_iff.1 hb4).1 q_hrK_b4
        replace hb4 := hA1.old hb4 q_hrK_b4
        clear hb5
        replace hxK := Xs.app hxK hA1 (.inr (by simp))
        replace hx1 := Xs.app hx1 hA1 (.inr (by simp))
        have ghO1 := hA1.ge hB.size gK
        replace hB := hA1.below hB hB.size gK
        refine At.fieldAddr rfl fo33_5 rfl ?_
        refine At.store1 rfl rfl hb3 sz24 (by rw [(withKids_size (ht).size)]; decide) (hO1).one (fun w15 S7 => ?_)
        replace hb1 := S7.other hb1 n_b1_b3
        replace hb2 := S7.other hb2 n_b2_b3
        replace hb4 := S7.other hb4 n_b3_b4.symm
        replace hO1 := hO1.set S7 q_hO1_b3
        replace hxK := Xs.set hxK S7 (by simp)
        replace hx1 := Xs.set hx1 S7 (by simp)
        replace hb3 : w15.heap[b3]? = some (.cells (Tm.withKids t va1 (ks ++ [tq1]) (.slice none 0 0) ([])).cs 33) := (by have q := S7.new; rw [withKids_set5 va1 (ks ++ [tq1])] at q; exact q)
        replace hB := S7.below' hB gb3
        refine At.ops0 ?_
        refine At.inN ?_
        refine At.thenN ?_
        refine At.region ?_
        refine At.move rfl rfl ?_
        refine At.addI rfl rfl rfl (by omega) ?_
        refine At.assign rfl rfl ?_
        refine At.ops0 ?_
        refine At.thenN ?_
        have hxKN : Xs kTm [some b1, some b2, some b3, Value.ownBlock va1] w15 (ks ++ [tq1]) := Xs.append (Xs.weaken hxK (by intro o ho; simp only [List.mem_cons, List.not_mem_nil, or_false] at ho ⊢; rcases ho with rfl | rfl | rfl | rfl <;> simp)) (Xs.weaken hx1 (by intro o ho; simp only [List.mem_cons, List.not_mem_nil, or_false] at ho ⊢; rcases ho with rfl | rfl | rfl | rfl <;> simp))
        exact fun a ha => ⟨((k + 1), nq1, va1, (ks ++ [tq1])), ha.sub (Sub.cons rfl (Sub.cons rfl (Sub.cons rfl (Sub.cons rfl (Sub.cons rfl (Sub.cons rfl Sub.nil)))))), ⟨hB, hb1, hb2, hb3, hO1, hxKN, (q_hO1_b1), (q_hO1_b2), (q_hO1_b3), (ghO1), (by omega), (by omega), (by omega), (by rw [take_succ_snoc huK]; exact relL_snoc hrel (PutT.mono hput1 hsz1))⟩, by first | omega | (dsimp only; omega)⟩
      · skip
        have hc3' := of_decide_eq_false hc3
        refine At.skip ?_
        refine At.thenN ?_
        refine At.region ?_
        refine At.fieldAddr rfl fo33_5 rfl ?_
        refine At.load rfl (Ld.ownCell ag24 hb3 (withKids_c5 (ht).size)) rfl ?_
        refine At.load rfl (Ld.own ag33 (sz33.trans (congrArg some (((ht).kid huK)).size.symm)) hb4) rfl ?_
        refine At.buildSlice (xs := [.tmp 47]) rfl rfl el24 sz33 ze33 (by intro v hv; simp only [List.mem_cons, List.not_mem_nil, or_false] at hv; rcases hv with rfl <;> first | rfl | simp [Value.cells, (((ht).kid huK)).size]) rfl (by decide) rfl (fun b6 w16 F6 => ?_)
        have q_hrK_b6 : some b6 ≠ Value.ownBlock kv := Own.neFresh hrK F6
        have n_b1_b6 : b1 ≠ b6 := Nat.ne_of_lt (F6.lt hb1)
        have n_b2_b6 : b2 ≠ b6 := Nat.ne_of_lt (F6.lt hb2)
        have n_b3_b6 : b3 ≠ b6 := Nat.ne_of_lt (F6.lt hb3)
        have n_b4_b6 : b4 ≠ b6 := Nat.ne_of_lt (F6.lt hb4)
        have gb6 := F6.ge hB
        replace hb1 := F6.old hb1
        replace hb2 := F6.old hb2
        replace hb3 := F6.old hb3
        replace hb4 := F6.old hb4
        replace hrK := hrK.fresh F6
        replace hxK := Xs.fresh hxK F6
        have hb6 : w16.heap[b6]? = some (.cells (([uK].map Tm.cs).flatMap (·.toList)).toArray 33) := F6.new
        replace hB := F6.below' hB
        refine At.appendR (f := Tm.cs) rfl rfl el24 el24 sz33 by33 ze33 rfl hrK (rows_tm (m := 1) hb6 (mem1 (Q := fun u => TmOk w16 u) ((((ht).kid huK)).keep hB)) rfl (by decide)) (by decide) (fun u hu => (((mem1 (Q := fun u => TmOk w16 u) ((((ht).kid huK)).keep hB))) u hu).one) (by first | (simp only [List.length_cons, List.length_nil]; omega) | (have := relL_len hrel; simp only [List.length_take] at this; simp only [List.length_cons, List.length_nil]; omega) | (have := relL_len hrelA; simp only [List.length_take] at this; simp only [List.length_cons, List.length_nil]; omega)) (by first | (simp only [List.length_cons, List.length_nil]; omega) | (have := relL_len hrel; simp only [List.length_take] at this; simp only [List.length_cons, List.length_nil]; omega) | (have := relL_len hrelA; simp only [List.length_take] at this; simp only [List.length_cons, List.length_nil]; omega)) rfl (fun va2 w17 hO2 hA2 => ?_)
        replace hO2 : OwnR 33 21 Tm.cs w17 va2 (ks ++ [uK]) := hO2
        have q_hO2_b1 : some b1 ≠ Value.ownBlock va2 := Moved.ne hA2.blk (Array.getElem?_eq_some_iff.1 hb1).1 hneK_b1
        replace hb1 := hA2.old hb1 hneK_b1
        have q_hO2_b2 : some b2 ≠ Value.ownBlock va2 := Moved.ne hA2.blk (Array.getElem?_eq_some_iff.1 hb2).1 hneK_b2
        replace hb2 := hA2.old hb2 hneK_b2
        have q_hO2_b3 : some b3 ≠ Value.ownBlock va2 := Moved.ne hA2.blk (Array.getElem?_eq_some_iff.1 hb3).1 hneK_b3
        replace hb3 := hA2.old hb3 hneK_b3
        have q_hO2_b4 : some b4 ≠ Value.ownBlock va2 := Moved.ne hA2.blk (Array.getElem?_eq_some_iff.1 hb4).1 q_hrK_b4
        replace hb4 := hA2.old hb4 q_hrK_b4
        clear hb6
        replace hxK := Xs.app hxK hA2 (.inr (by simp))
        have ghO2 := hA2.ge hB.size gK
        replace hB := hA2.below hB hB.size gK
        refine At.fieldAddr rfl fo33_5 rfl ?_
        refine At.store1 rfl rfl hb3 sz24 (by rw [(withKids_size (ht).size)]; decide) (hO2).one (fun w18 S8 => ?_)
        replace hb1 := S8.other hb1 n_b1_b3
        replace hb2 := S8.other hb2 n_b2_b3
        replace hb4 := S8.other hb4 n_b3_b4.symm
        replace hO2 := hO2.set S8 q_hO2_b3
        replace hxK := Xs.set hxK S8 (by simp)
        replace hb3 : w18.heap[b3]? = some (.cells (Tm.withKids t va2 (ks ++ [uK]) (.slice none 0 0) ([])).cs 33) := (by have q := S8.new; rw [withKids_set5 va2 (ks ++ [uK])] at q; exact q)
        replace hB := S8.below' hB gb3
        refine At.ops0 ?_
        refine At.inN ?_
        refine At.thenN ?_
        refine At.region ?_
        refine At.move rfl rfl ?_
        refine At.addI rfl rfl rfl (by omega) ?_
        refine At.assign rfl rfl ?_
        refine At.ops0 ?_
        refine At.thenN ?_
        have hxKN : Xs kTm [some b1, some b2, some b3, Value.ownBlock va2] w18 (ks ++ [uK]) := Xs.append (Xs.weaken hxK (by intro o ho; simp only [List.mem_cons, List.not_mem_nil, or_false] at ho ⊢; rcases ho with rfl | rfl | rfl | rfl <;> simp)) (Xs.of_base (w0 := w) (K := kTm) (mem1 ((ht).kid huK)) hB (MOk.blk gb1 (MOk.blk gb2 (MOk.blk gb3 (MOk.own ghO2 (MOk.nil _))))))
        exact fun a ha => ⟨((k + 1), m, va2, (ks ++ [uK])), ha.sub (Sub.cons rfl (Sub.cons rfl (Sub.cons rfl (Sub.cons rfl (Sub.cons rfl (Sub.cons rfl Sub.nil)))))), ⟨hB, hb1, hb2, hb3, hO2, hxKN, (q_hO2_b1), (q_hO2_b2), (q_hO2_b3), (ghO2), (by omega), (by omega), (by omega), (by rw [take_succ_snoc huK]; exact relL_snoc hrel (PutT.refl _ _))⟩, by first | omega | (dsimp only; omega)⟩
    · skip
      have hc2' := of_decide_eq_false hc2
      refine At.exit ?_
      refine At.thenE ?_
      refine At.thenE ?_
      refine At.inE ?_
      refine At.thenN ?_
      refine At.seq ?_
      refine At.seq ?_
      refine At.region ?_
      refine At.assign rfl rfl ?_
      refine At.ops0 ?_
      refine At.thenN ?_
      refine At.block ?_
      have hfull : t.kids.take k = t.kids := List.take_of_length_le (by omega)
      rw [hfull] at hrel
      refine At.loop (Nat × Int × Value × List Am) (fun (j, m2, av, ls) => [(1, .int .i64 m2), (2, .string name), (3, .pointer (some ⟨b1, 0, none⟩)), (6, .pointer (some ⟨b2, 0, none⟩)), (8, .pointer (some ⟨b3, 0, none⟩)), (11, .int .i64 (j : Int))]) (fun (j, m2, av, ls) w19 => Below w.heap.size w w19 ∧ w19.heap[b1]? = some (.cells t.cs 33) ∧ w19.heap[b2]? = some (.cells #[.int .i64 0, .int .i64 0, .string (⟨#[]⟩ : ByteArray), .string (⟨#[]⟩ : ByteArray), .int .i64 0, (.slice none 0 0), (.slice none 0 0), .int .i64 0, .string (⟨#[]⟩ : ByteArray), .int .i64 0, (.slice none 0 0), (.slice none 0 0), .int .i64 0, (.slice none 0 0), .int .i64 0, .int .i64 0, .string (⟨#[]⟩ : ByteArray), .int .i64 0, (.slice none 0 0), (.slice none 0 0), .int .i64 0] 33) ∧ w19.heap[b3]? = some (.cells (Tm.withKids t kv ks av ls).cs 33) ∧ OwnR 33 21 Tm.cs w19 kv ks ∧ OwnR 71 23 Am.cs w19 av ls ∧ Xs kTm [some b1, some b2, some b3, Value.ownBlock kv, Value.ownBlock av] w19 ks ∧ Xs kAm [some b1, some b2, some b3, Value.ownBlock kv, Value.ownBlock av] w19 ls ∧ (∀ g, av.ownBlock = some g → w.heap.size ≤ g) ∧ (j ≤ t.arms.length) ∧ (0 ≤ m2) ∧ (m2 ≤ n) ∧ (relL (ArmT w.heap.size) (t.arms.take j) ls)) (fun (j, m2, av, ls) => t.arms.length - j) (0, m, .slice none 0 0, []) (Sub.cons rfl (Sub.cons rfl (Sub.cons rfl (Sub.cons rfl (Sub.cons rfl (Sub.cons rfl Sub.nil)))))) ⟨hB, hb1, hb2, hb3, hrK, OwnR.nil _ _ _ _, (Xs.weakenNone (v := .slice none 0 0) hxK (by intro o ho; simp only [List.mem_cons, List.not_mem_nil, or_false] at ho ⊢; rcases ho with rfl | rfl | rfl | rfl | rfl <;> simp [Value.ownBlock])), Xs.nil _ _ _, (fun g h => by cases h), (Nat.zero_le _), (by omega), (by omega), (trivial)⟩ (fun gh w19 hI => ?_)
      obtain ⟨j, m2, av, ls⟩ := gh
      clear hB hb1 hb2 hb3 hrK hxK
      obtain ⟨hB, hb1, hb2, hb3, hrK, hrA, hxK, hxA, gA, hjb, hq0, hq1, hrelA⟩ := hI
      show At _ _ [(1, .int .i64 m2), (2, .string name), (3, .pointer (some ⟨b1, 0, none⟩)), (6, .pointer (some ⟨b2, 0, none⟩)), (8, .pointer (some ⟨b3, 0, none⟩)), (11, .int .i64 (j : Int))] _ _
      refine At.seq ?_
      refine At.seq ?_
      refine At.region ?_
      refine At.move rfl rfl ?_
      refine At.fieldAddr rfl fo33_6 rfl ?_
      refine At.load rfl (Ld.ownCell ag25 hb1 (ht).c6) rfl ?_
      refine At.lenSl rfl ((ht).armsAt).okL el25 rfl ?_
      refine At.lss rfl rfl rfl ?_
      refine At.ops0 ?_
      refine At.thenN ?_
      refine At.cond (b := decide ((j : Int) < (t.arms.length : Int))) rfl (fun hc4 => ?_) (fun hc4 => ?_)
      · skip
        have hc4' := of_decide_eq_true hc4
        refine At.skip ?_
        refine At.thenN ?_
        refine At.seq ?_
        refine At.block ?_
        refine At.seq ?_
        obtain ⟨uA, huA⟩ := some_of_lt (l := t.arms) (i := j) (by omega)
        refine At.region ?_
        refine At.fieldAddr rfl fo33_6 rfl ?_
        refine At.load rfl (Ld.ownCell ag25 hb1 (ht).c6) rfl ?_
        refine At.move rfl rfl ?_
        refine At.indexAddr (i := j) rfl rfl ((ht).armsAt).okL (lt_of_some huA) el25 sz71 rfl ?_
        refine At.load rfl (Ld.row ag71 (sz71.trans (congrArg some (((ht).arm huA)).size.symm)) ((((ht).armsAt).row huA).keep hB)) rfl ?_
        refine At.alloc ze71 rfl (fun b7 w20 F7 => ?_)
        have q_hrA_b7 : some b7 ≠ Value.ownBlock av := Own.neFresh hrA F7
        have n_b1_b7 : b1 ≠ b7 := Nat.ne_of_lt (F7.lt hb1)
        have n_b2_b7 : b2 ≠ b7 := Nat.ne_of_lt (F7.lt hb2)
        have n_b3_b7 : b3 ≠ b7 := Nat.ne_of_lt (F7.lt hb3)
        have gb7 := F7.ge hB
        replace hb1 := F7.old hb1
        replace hb2 := F7.old hb2
        replace hb3 := F7.old hb3
        replace hrK := hrK.fresh F7
        replace hrA := hrA.fresh F7
        replace hxK := Xs.fresh hxK F7
        replace hxA := Xs.fresh hxA F7
        have hb7 : w20.heap[b7]? = some (.cells #[.string (⟨#[]⟩ : ByteArray), (.slice none 0 0), .int .i64 0, .int .i64 0, .string (⟨#[]⟩ : ByteArray), .string (⟨#[]⟩ : ByteArray), .int .i64 0, (.slice none 0 0), (.slice none 0 0), .int .i64 0, .string (⟨#[]⟩ : ByteArray), .int .i64 0, (.slice none 0 0), (.slice none 0 0), .int .i64 0, (.slice none 0 0), .int .i64 0, .int .i64 0, .string (⟨#[]⟩ : ByteArray), .int .i64 0, (.slice none 0 0), (.slice none 0 0), .int .i64 0] 71) := F7.new
        replace hB := F7.below' hB
        refine At.storeAll rfl rfl hb7 (sz71.trans (congrArg some (((ht).arm huA)).size.symm)) (((ht).arm huA)).size.symm (((ht).arm huA)).one (fun w21 S9 => ?_)
        replace hb1 := S9.other hb1 n_b1_b7
        replace hb2 := S9.other hb2 n_b2_b7
        replace hb3 := S9.other hb3 n_b3_b7
        replace hrK := hrK.set S9 (hrK.neT hb7 rfl)
        replace hrA := hrA.set S9 q_hrA_b7
        replace hxK := Xs.set hxK S9 (by simp)
        replace hxA := Xs.set hxA S9 (by simp)
        replace hb7 : w21.heap[b7]? = some (.cells uA.cs 71) := S9.new
        replace hB := S9.below' hB gb7
        refine At.ops0 ?_
        refine At.thenN ?_
        refine At.seq ?_
        refine At.seq ?_
        refine At.region ?_
        refine At.move rfl rfl ?_
        refine At.gtr rfl rfl rfl ?_
        refine At.ops0 ?_
        refine At.thenN ?_
        refine At.cond (b := decide (0 < m2)) rfl (fun hc5 => ?_) (fun hc5 => ?_)
        · skip
          have hc5' := of_decide_eq_true hc5
          refine At.region ?_
          refine At.fieldAddr rfl fo71_2 rfl ?_
          refine At.load rfl (Ld.ownPart ag33 (sz33.trans (congrArg some ((((ht).arm huA)).body).size.symm)) hb7 (((ht).arm huA)).bodyCs) rfl ?_
          refine At.move rfl rfl ?_
          refine At.move rfl rfl ?_
          have hMa2 : MOk w.heap.size [some b1, some b2, some b3, some b7, Value.ownBlock kv, Value.ownBlock av] := (MOk.blk gb1 (MOk.blk gb2 (MOk.blk gb3 (MOk.blk gb7 (MOk.own gK (MOk.own gA (MOk.nil _)))))))
          have hMb2 : MLt w21.heap.size [some b1, some b2, some b3, some b7, Value.ownBlock kv, Value.ownBlock av] := (MLt.blk hb1 (MLt.blk hb2 (MLt.blk hb3 (MLt.blk hb7 (MLt.own hrK (MLt.own hrA (MLt.nil _)))))))
          have hsz2 := hB.size
          refine At.call en24 rfl rfl (ih uA.body (by have := wt_arm (List.mem_of_getElem? huA); omega) m2 _ (((((ht).arm huA)).body).keep hB) (by omega) (by omega)) (fun e w22 hR => ?_)
          obtain ⟨tq2, nq2, rfl, hbl2, hok2, hput2, hqn2, hqm2⟩ := hR
          refine ⟨_, rfl, ?_⟩
          have hx2 : Xs kTm [some b1, some b2, some b3, some b7, Value.ownBlock kv, Value.ownBlock av] w22 [tq2] := Xs.of_new (B := w.heap.size) hok2 (PutT.base hput2 (((ht).arm huA)).body) hMa2 hMb2
          replace hb1 := Below.old hbl2 hb1
          replace hb2 := Below.old hbl2 hb2
          replace hb3 := Below.old hbl2 hb3
          replace hb7 := Below.old hbl2 hb7
          replace hrK := hrK.below hbl2
          replace hrA := hrA.below hbl2
          replace hxK := Xs.below hxK hbl2
          replace hxA := Xs.below hxA hbl2
          replace hB := Below.andThen hB hbl2
          refine At.move rfl rfl ?_
          refine At.extract rfl rfl rfl ?_
          refine At.extract rfl rfl rfl ?_
          refine At.fieldAddr rfl fo71_2 rfl ?_
          refine At.storePart (cs := tq2.cs) rfl rfl hb7 (sz33.trans (congrArg some ((Xs.one hx2)).size.symm)) (by rw [((Xs.one hx2)).size, (((ht).arm huA)).size]; first | done | decide) ((Xs.one hx2)).one (fun w23 S10 => ?_)
          replace hb1 := S10.other hb1 n_b1_b7
          replace hb2 := S10.other hb2 n_b2_b7
          replace hb3 := S10.other hb3 n_b3_b7
          replace hrK := hrK.set S10 (hrK.neT hb7 rfl)
          replace hrA := hrA.set S10 q_hrA_b7
          replace hxK := Xs.set hxK S10 (by simp)
          replace hxA := Xs.set hxA S10 (by simp)
          replace hx2 := Xs.set hx2 S10 (by simp)
          replace hb7 : w23.heap[b7]? = some (.cells (Am.withBody uA tq2).cs 71) := S10.new
          replace hB := S10.below' hB gb7
          refine At.assign rfl rfl ?_
          refine At.ops0 ?_
          refine At.thenN ?_
          refine At.region ?_
          refine At.fieldAddr rfl fo33_6 rfl ?_
          refine At.load rfl (Ld.ownCell ag25 hb3 (withKids_c6 (ht).size)) rfl ?_
          refine At.load rfl (Ld.own ag71 (sz71.trans (congrArg some ((AmOk.withBody ((((ht).arm huA)).keep hB) (((Xs.one hx2)).keep (Below.refl _ _)))).size.symm)) hb7) rfl ?_
          refine At.buildSlice (xs := [.tmp 76]) rfl rfl el25 sz71 ze71 (by intro v hv; simp only [List.mem_cons, List.not_mem_nil, or_false] at hv; rcases hv with rfl <;> first | rfl | simp [Value.cells, ((AmOk.withBody ((((ht).arm huA)).keep hB) (((Xs.one hx2)).keep (Below.refl _ _)))).size]) rfl (by decide) rfl (fun b8 w24 F8 => ?_)
          have q_hrA_b8 : some b8 ≠ Value.ownBlock av := Own.neFresh hrA F8
          have n_b1_b8 : b1 ≠ b8 := Nat.ne_of_lt (F8.lt hb1)
          have n_b2_b8 : b2 ≠ b8 := Nat.ne_of_lt (F8.lt hb2)
          have n_b3_b8 : b3 ≠ b8 := Nat.ne_of_lt (F8.lt hb3)
          have n_b7_b8 : b7 ≠ b8 := Nat.ne_of_lt (F8.lt hb7)
          have gb8 := F8.ge hB
          replace hb1 := F8.old hb1
          replace hb2 := F8.old hb2
          replace hb3 := F8.old hb3
          replace hb7 := F8.old hb7
          replace hrK := hrK.fresh F8
          replace hrA := hrA.fresh F8
          replace hxK := Xs.fresh hxK F8
          replace hxA := Xs.fresh hxA F8
          replace hx2 := Xs.fresh hx2 F8
          have hb8 : w24.heap[b8]? = some (.cells (([(Am.withBody uA tq2)].map Am.cs).flatMap (·.toList)).toArray 71) := F8.new
          replace hB := F8.below' hB
          refine At.appendR (f := Am.cs) rfl rfl el25 el25 sz71 by71 ze71 rfl hrA (rows_own (f := Am.cs) (m := 1) hb8 (fun u hu => ((mem1 (Q := fun u => AmOk w24 u) (((AmOk.withBody ((((ht).arm huA)).keep hB) (((Xs.one hx2)).keep (Below.refl _ _)))).keep (Below.refl _ _))) u hu).size) rfl (by decide)) (by decide) (fun u hu => (((mem1 (Q := fun u => AmOk w24 u) (((AmOk.withBody ((((ht).arm huA)).keep hB) (((Xs.one hx2)).keep (Below.refl _ _)))).keep (Below.refl _ _)))) u hu).one) (by first | (simp only [List.length_cons, List.length_nil]; omega) | (have := relL_len hrel; simp only [List.length_take] at this; simp only [List.length_cons, List.length_nil]; omega) | (have := relL_len hrelA; simp only [List.length_take] at this; simp only [List.length_cons, List.length_nil]; omega)) (by first | (simp only [List.length_cons, List.length_nil]; omega) | (have := relL_len hrel; simp only [List.length_take] at this; simp only [List.length_cons, List.length_nil]; omega) | (have := relL_len hrelA; simp only [List.length_take] at this; simp only [List.length_cons, List.length_nil]; omega)) rfl (fun va3 w25 hO3 hA3 => ?_)
          replace hO3 : OwnR 71 23 Am.cs w25 va3 (ls ++ [(Am.withBody uA tq2)]) := hO3
          replace hb1 := hA3.old hb1 (hrA.neT hb1 rfl)
          replace hb2 := hA3.old hb2 (hrA.neT hb2 rfl)
          replace hb3 := hA3.old hb3 (hrA.neT hb3 rfl)
          have q_hO3_b7 : some b7 ≠ Value.ownBlock va3 := Moved.ne hA3.blk (Array.getElem?_eq_some_iff.1 hb7).1 q_hrA_b7
          replace hb7 := hA3.old hb7 q_hrA_b7
          clear hb8
          replace hrK := Own.keepT hA3 hrA hrK rfl
          replace hxK := Xs.app hxK hA3 (.inr (by simp))
          replace hxA := Xs.app hxA hA3 (.inr (by simp))
          replace hx2 := Xs.app hx2 hA3 (.inr (by simp))
          have ghO3 := hA3.ge hB.size gA
          replace hB := hA3.below hB hB.size gA
          refine At.fieldAddr rfl fo33_6 rfl ?_
          refine At.store1 rfl rfl hb3 sz25 (by rw [(withKids_size (ht).size)]; decide) (hO3).one (fun w26 S11 => ?_)
          replace hb1 := S11.other hb1 n_b1_b3
          replace hb2 := S11.other hb2 n_b2_b3
          replace hb7 := S11.other hb7 n_b3_b7.symm
          replace hrK := hrK.set S11 hneK_b3
          replace hO3 := hO3.set S11 (hO3.neT hb3 rfl)
          replace hxK := Xs.set hxK S11 (by simp)
          replace hxA := Xs.set hxA S11 (by simp)
          replace hx2 := Xs.set hx2 S11 (by simp)
          replace hb3 : w26.heap[b3]? = some (.cells (Tm.withKids t kv ks va3 (ls ++ [(Am.withBody uA tq2)])).cs 33) := (by have q := S11.new; rw [withKids_set6 va3 (ls ++ [(Am.withBody uA tq2)])] at q; exact q)
          replace hB := S11.below' hB gb3
          refine At.ops0 ?_
          refine At.inN ?_
          refine At.thenN ?_
          refine At.region ?_
          refine At.move rfl rfl ?_
          refine At.addI rfl rfl rfl (by omega) ?_
          refine At.assign rfl rfl ?_
          refine At.ops0 ?_
          refine At.thenN ?_
          have hxKN2 : Xs kTm [some b1, some b2, some b3, Value.ownBlock kv, Value.ownBlock va3] w26 ks := Xs.weaken hxK (by intro o ho; simp only [List.mem_cons, List.not_mem_nil, or_false] at ho ⊢; rcases ho with rfl | rfl | rfl | rfl | rfl <;> simp)
          have hxAN : Xs kAm [some b1, some b2, some b3, Value.ownBlock kv, Value.ownBlock va3] w26 (ls ++ [(Am.withBody uA tq2)]) := Xs.append (Xs.weaken hxA (by intro o ho; simp only [List.mem_cons, List.not_mem_nil, or_false] at ho ⊢; rcases ho with rfl | rfl | rfl | rfl | rfl <;> simp)) (Xs.withBody (Xs.weaken hx2 (by intro o ho; simp only [List.mem_cons, List.not_mem_nil, or_false] at ho ⊢; rcases ho with rfl | rfl | rfl | rfl | rfl <;> simp)) ((ht).arm huA) hB (MOk.blk gb1 (MOk.blk gb2 (MOk.blk gb3 (MOk.own gK (MOk.own ghO3 (MOk.nil _)))))))
          exact fun a ha => ⟨((j + 1), nq2, va3, (ls ++ [(Am.withBody uA tq2)])), ha.sub (Sub.cons rfl (Sub.cons rfl (Sub.cons rfl (Sub.cons rfl (Sub.cons rfl (Sub.cons rfl Sub.nil)))))), ⟨hB, hb1, hb2, hb3, hrK, hO3, hxKN2, hxAN, (ghO3), (by omega), (by omega), (by omega), (by rw [take_succ_snoc huA]; exact relL_snoc hrelA (ArmT.withBody (PutT.mono hput2 hsz2)))⟩, by first | omega | (dsimp only; omega)⟩
        · skip
          have hc5' := of_decide_eq_false hc5
          refine At.skip ?_
          refine At.thenN ?_
          refine At.region ?_
          refine At.fieldAddr rfl fo33_6 rfl ?_
          refine At.load rfl (Ld.ownCell ag25 hb3 (withKids_c6 (ht).size)) rfl ?_
          refine At.load rfl (Ld.own ag71 (sz71.trans (congrArg some (((ht).arm huA)).size.symm)) hb7) rfl ?_
          refine At.buildSlice (xs := [.tmp 76]) rfl rfl el25 sz71 ze71 (by intro v hv; simp only [List.mem_cons, List.not_mem_nil, or_false] at hv; rcases hv with rfl <;> first | rfl | simp [Value.cells, (((ht).arm huA)).size]) rfl (by decide) rfl (fun b9 w27 F9 => ?_)
          have q_hrA_b9 : some b9 ≠ Value.ownBlock av := Own.neFresh hrA F9
          have n_b1_b9 : b1 ≠ b9 := Nat.ne_of_lt (F9.lt hb1)
          have n_b2_b9 : b2 ≠ b9 := Nat.ne_of_lt (F9.lt hb2)
          have n_b3_b9 : b3 ≠ b9 := Nat.ne_of_lt (F9.lt hb3)
          have n_b7_b9 : b7 ≠ b9 := Nat.ne_of_lt (F9.lt hb7)
          have gb9 := F9.ge hB
          replace hb1 := F9.old hb1
          replace hb2 := F9.old hb2
          replace hb3 := F9.old hb3
          replace hb7 := F9.old hb7
          replace hrK := hrK.fresh F9
          replace hrA := hrA.fresh F9
          replace hxK := Xs.fresh hxK F9
          replace hxA := Xs.fresh hxA F9
          have hb9 : w27.heap[b9]? = some (.cells (([uA].map Am.cs).flatMap (·.toList)).toArray 71) := F9.new
          replace hB := F9.below' hB
          refine At.appendR (f := Am.cs) rfl rfl el25 el25 sz71 by71 ze71 rfl hrA (rows_own (f := Am.cs) (m := 1) hb9 (fun u hu => ((mem1 (Q := fun u => AmOk w27 u) ((((ht).arm huA)).keep hB)) u hu).size) rfl (by decide)) (by decide) (fun u hu => (((mem1 (Q := fun u => AmOk w27 u) ((((ht).arm huA)).keep hB))) u hu).one) (by first | (simp only [List.length_cons, List.length_nil]; omega) | (have := relL_len hrel; simp only [List.length_take] at this; simp only [List.length_cons, List.length_nil]; omega) | (have := relL_len hrelA; simp only [List.length_take] at this; simp only [List.length_cons, List.length_nil]; omega)) (by first | (simp only [List.length_cons, List.length_nil]; omega) | (have := relL_len hrel; simp only [List.length_take] at this; simp only [List.length_cons, List.length_nil]; omega) | (have := relL_len hrelA; simp only [List.length_take] at this; simp only [List.length_cons, List.length_nil]; omega)) rfl (fun va4 w28 hO4 hA4 => ?_)
          replace hO4 : OwnR 71 23 Am.cs w28 va4 (ls ++ [uA]) := hO4
          replace hb1 := hA4.old hb1 (hrA.neT hb1 rfl)
          replace hb2 := hA4.old hb2 (hrA.neT hb2 rfl)
          replace hb3 := hA4.old hb3 (hrA.neT hb3 rfl)
          have q_hO4_b7 : some b7 ≠ Value.ownBlock va4 := Moved.ne hA4.blk (Array.getElem?_eq_some_iff.1 hb7).1 q_hrA_b7
          replace hb7 := hA4.old hb7 q_hrA_b7
          clear hb9
          replace hrK := Own.keepT hA4 hrA hrK rfl
          replace hxK := Xs.app hxK hA4 (.inr (by simp))
          replace hxA := Xs.app hxA hA4 (.inr (by simp))
          have ghO4 := hA4.ge hB.size gA
          replace hB := hA4.below hB hB.size gA
          refine At.fieldAddr rfl fo33_6 rfl ?_
          refine At.store1 rfl rfl hb3 sz25 (by rw [(withKids_size (ht).size)]; decide) (hO4).one (fun w29 S12 => ?_)
          replace hb1 := S12.other hb1 n_b1_b3
          replace hb2 := S12.other hb2 n_b2_b3
          replace hb7 := S12.other hb7 n_b3_b7.symm
          replace hrK := hrK.set S12 hneK_b3
          replace hO4 := hO4.set S12 (hO4.neT hb3 rfl)
          replace hxK := Xs.set hxK S12 (by simp)
          replace hxA := Xs.set hxA S12 (by simp)
          replace hb3 : w29.heap[b3]? = some (.cells (Tm.withKids t kv ks va4 (ls ++ [uA])).cs 33) := (by have q := S12.new; rw [withKids_set6 va4 (ls ++ [uA])] at q; exact q)
          replace hB := S12.below' hB gb3
          refine At.ops0 ?_
          refine At.inN ?_
          refine At.thenN ?_
          refine At.region ?_
          refine At.move rfl rfl ?_
          refine At.addI rfl rfl rfl (by omega) ?_
          refine At.assign rfl rfl ?_
          refine At.ops0 ?_
          refine At.thenN ?_
          have hxKN2 : Xs kTm [some b1, some b2, some b3, Value.ownBlock kv, Value.ownBlock va4] w29 ks := Xs.weaken hxK (by intro o ho; simp only [List.mem_cons, List.not_mem_nil, or_false] at ho ⊢; rcases ho with rfl | rfl | rfl | rfl | rfl <;> simp)
          have hxAN : Xs kAm [some b1, some b2, some b3, Value.ownBlock kv, Value.ownBlock va4] w29 (ls ++ [uA]) := Xs.append (Xs.weaken hxA (by intro o ho; simp only [List.mem_cons, List.not_mem_nil, or_false] at ho ⊢; rcases ho with rfl | rfl | rfl | rfl | rfl <;> simp)) (Xs.of_base (w0 := w) (K := kAm) (mem1 ((ht).arm huA)) hB (MOk.blk gb1 (MOk.blk gb2 (MOk.blk gb3 (MOk.own gK (MOk.own ghO4 (MOk.nil _)))))))
          exact fun a ha => ⟨((j + 1), m2, va4, (ls ++ [uA])), ha.sub (Sub.cons rfl (Sub.cons rfl (Sub.cons rfl (Sub.cons rfl (Sub.cons rfl (Sub.cons rfl Sub.nil)))))), ⟨hB, hb1, hb2, hb3, hrK, hO4, hxKN2, hxAN, (ghO4), (by omega), (by omega), (by omega), (by rw [take_succ_snoc huA]; exact relL_snoc hrelA (ArmT.refl _ _))⟩, by first | omega | (dsimp only; omega)⟩
      · skip
        have hc4' := of_decide_eq_false hc4
        refine At.exit ?_
        refine At.thenE ?_
        refine At.thenE ?_
        refine At.inE ?_
        refine At.thenN ?_
        refine At.seq ?_
        refine At.region ?_
        refine At.load rfl (Ld.own ag33 (sz33.trans (congrArg some (withKids_size (ht).size).symm)) hb3) rfl ?_
        refine At.move rfl rfl ?_
        refine At.storeAll rfl rfl hb2 (sz33.trans (congrArg some (withKids_size (ht).size).symm)) (withKids_size (ht).size).symm ((TmOk.withKids ((ht).keep hB) (OwnR.rows hrK (fun u hu => (((Xs.ok hxK)) u hu).size)) ((Xs.ok hxK)) (OwnR.rows hrA (fun u hu => (((Xs.ok hxA)) u hu).size)) ((Xs.ok hxA)))).one (fun w30 S13 => ?_)
        replace hb1 := S13.other hb1 n_b1_b2
        replace hb3 := S13.other hb3 n_b2_b3.symm
        replace hrK := hrK.set S13 hneK_b2
        replace hrA := hrA.set S13 (hrA.neT hb2 rfl)
        replace hxK := Xs.set hxK S13 (by simp)
        replace hxA := Xs.set hxA S13 (by simp)
        replace hb2 : w30.heap[b2]? = some (.cells (Tm.withKids t kv ks av ls).cs 33) := S13.new
        replace hB := S13.below' hB gb2
        refine At.assign rfl rfl ?_
        refine At.ops0 ?_
        refine At.thenN ?_
        refine At.retc ?_
        refine At.doneR (ResV.cell rfl (Ld.own ag33 (sz33.trans (congrArg some (withKids_size (ht).size).symm)) hb2) (ResV.tmp rfl ResV.nil)) ?_
        have hfullA : t.arms.take j = t.arms := List.take_of_length_le (by omega)
        rw [hfullA] at hrelA
        exact ⟨Tm.withKids t kv ks av ls, m2, rfl, hB, (((TmOk.withKids ((ht).keep hB) (OwnR.rows hrK (fun u hu => (((Xs.ok hxK)) u hu).size)) ((Xs.ok hxK)) (OwnR.rows hrA (fun u hu => (((Xs.ok hxA)) u hu).size)) ((Xs.ok hxA)))).keep (Below.refl _ _)), PutT.withKids hrel hrelA (fun h => gK _ (OwnR.blk hrK h)) (fun h => gA _ (OwnR.blk hrA h)), by omega, by omega⟩
theorem put_any (name : ByteArray) (t : Tm) (n : Int) (w : World) (ht : TmOk w t) (hn0 : 0 < n) (hn1 : n ≤ 4611686018427387904) (hwl : wtT t ≤ 1073741824) : Calls Try.prog 24 ([.agg t.cs, .int .i64 n, .string name] : List Value).toArray w fun e w' => ∃ t' n', e = .returned (.tuple #[.agg t'.cs, .int .i64 n']) ∧ Below w.heap.size w w' ∧ TmOk w' t' ∧ PutT w.heap.size t t' ∧ 0 ≤ n' ∧ n' ≤ n := by
  have key : ∀ (m : Nat) (t : Tm), wtT t = m → wtT t ≤ 1073741824 → ∀ (n : Int) (w : World), TmOk w t → 0 < n → n ≤ 4611686018427387904 → Calls Try.prog 24 ([.agg t.cs, .int .i64 n, .string name] : List Value).toArray w fun e w' => ∃ t' n', e = .returned (.tuple #[.agg t'.cs, .int .i64 n']) ∧ Below w.heap.size w w' ∧ TmOk w' t' ∧ PutT w.heap.size t t' ∧ 0 ≤ n' ∧ n' ≤ n := by
    intro m
    induction m using Nat.strongRecOn with
    | _ m ih => intro t hm hw n w h h0 h1; exact put_step name t n w h h0 h1 hw (fun u hu => ih (wtT u) (hm ▸ hu) u rfl (by omega))
  exact key _ t rfl hwl n w ht hn0 hn1
theorem scopeUnbound_any (p : Pr) (n : Int) (name : ByteArray) (w : World) (hp : PrOk w p) (hz : PrSz p) (hwb : wtT p.body ≤ 1048576) :
    Calls Try.prog 5 ([.agg p.cs, .int .i64 n, .string name] : List Value).toArray w fun e w' => e = .returned (.bool true) ∧ Below w.heap.size w w' := by
  have hB := Below.refl w.heap.size w
  refine At.enter (N := 61) Try.func5 rfl rfl (by simp) [(0, .agg p.cs), (1, .int .i64 n), (2, .string name)] (by simp) ?_
  refine At.seq ?_
  refine At.region ?_
  refine At.box rfl rfl (fun b1 w1 F1 => ?_)
  have gb1 := F1.ge hB
  have hb1 : w1.heap[b1]? = some (.cells p.cs 35) := F1.new
  replace hB := F1.below' hB
  refine At.assign rfl rfl ?_
  refine At.ops0 ?_
  refine At.thenN ?_
  refine At.seq ?_
  refine At.region ?_
  refine At.call en10 rfl rfl (shown_any _) (fun e w2 hR => ?_)
  obtain ⟨rfl, hbl1⟩ := hR
  refine ⟨_, rfl, ?_⟩
  replace hb1 := Below.old hbl1 hb1
  replace hB := Below.andThen hB hbl1
  refine At.assign rfl rfl ?_
  refine At.ops0 ?_
  refine At.thenN ?_
  refine At.seq ?_
  refine At.seq ?_
  refine At.region ?_
  refine At.load rfl (Ld.own ag35 (sz35.trans (congrArg some (hp).size.symm)) hb1) rfl ?_
  refine At.call en11 rfl rfl (large_any p _ ((hp).keep hB)) (fun e w3 hR => ?_)
  obtain ⟨rfl, hbl2⟩ := hR
  refine ⟨_, rfl, ?_⟩
  replace hb1 := Below.old hbl2 hb1
  replace hB := Below.andThen hB hbl2
  refine At.ops0 ?_
  refine At.thenN ?_
  refine At.cond (b := (largeB p)) rfl (fun hc1 => ?_) (fun hc1 => ?_)
  · skip
    refine At.seq ?_
    refine At.region ?_
    refine At.move rfl rfl ?_
    refine At.assign rfl rfl ?_
    refine At.ops0 ?_
    refine At.thenN ?_
    refine At.retc ?_
    refine At.thenR ?_
    refine At.doneR (ResV.tmp rfl ResV.nil) ?_
    exact ⟨rfl, hB⟩
  · skip
    refine At.skip ?_
    refine At.thenN ?_
    refine At.seq ?_
    refine At.region ?_
    refine At.load rfl (Ld.own ag35 (sz35.trans (congrArg some (hp).size.symm)) hb1) rfl ?_
    refine At.call en12 rfl rfl (check_any p _ ((hp).keep hB) hz (Nat.le_trans hwb (by decide))) (fun e w4 hR => ?_)
    obtain ⟨rfl, hbl3⟩ := hR
    refine ⟨_, rfl, ?_⟩
    replace hb1 := Below.old hbl3 hb1
    replace hB := Below.andThen hB hbl3
    refine At.move rfl rfl ?_
    refine At.extract rfl rfl rfl ?_
    refine At.extract rfl rfl rfl ?_
    refine At.assign rfl rfl ?_
    refine At.assign rfl rfl ?_
    refine At.ops0 ?_
    refine At.thenN ?_
    refine At.seq ?_
    refine At.seq ?_
    refine At.region ?_
    refine At.move rfl rfl ?_
    refine At.neI rfl rfl rfl ?_
    refine At.ops0 ?_
    refine At.thenN ?_
    refine At.cond (b := (!decide ((checkP p).2 = 0))) rfl (fun hc2 => ?_) (fun hc2 => ?_)
    · skip
      have hc2' := hc2; simp only [Bool.not_eq_true', Bool.not_eq_false', decide_eq_true_eq, decide_eq_false_iff_not] at hc2'
      refine At.seq ?_
      refine At.region ?_
      refine At.move rfl rfl ?_
      refine At.assign rfl rfl ?_
      refine At.ops0 ?_
      refine At.thenN ?_
      refine At.retc ?_
      refine At.thenR ?_
      refine At.doneR (ResV.tmp rfl ResV.nil) ?_
      exact ⟨rfl, hB⟩
    · skip
      have hc2' := hc2; simp only [Bool.not_eq_true', Bool.not_eq_false', decide_eq_true_eq, decide_eq_false_iff_not] at hc2'
      refine At.skip ?_
      refine At.thenN ?_
      refine At.seq ?_
      refine At.seq ?_
      have hok : (checkP p).2 = 0 := by simpa using hc2
      have hrf := right_free hok
      have hwi : (wtT p.body : Int) ≤ 4611686018427387904 := by omega
      refine At.region ?_
      refine At.fieldAddr rfl fo35_2 rfl ?_
      refine At.load rfl (Ld.ownPart ag33 (sz33.trans (congrArg some ((hp).bodyOk).size.symm)) hb1 (hp).bodyCs) rfl ?_
      refine At.call en22 rfl rfl (free_any p.body _ (((hp).bodyOk).keep hB) (Nat.le_trans hwb (by decide))) (fun e w5 hR => ?_)
      obtain ⟨vs1, ls1, rfl, hbl4, hst1, hFr1⟩ := hR
      refine ⟨_, rfl, ?_⟩
      replace hb1 := Below.old hbl4 hb1
      replace hB := Below.andThen hB hbl4
      refine At.lenSl rfl (hst1).ok el27 rfl ?_
      refine At.gtr rfl rfl rfl ?_
      refine At.ops0 ?_
      refine At.thenN ?_
      have hb : (decide (0 < (ls1.length : Int))) = false := by rw [hFr1.2 ((free_iff hwi).2 hrf.1)]; rfl
      refine At.set (d := 28) (u := .bool false) rfl (congrArg Value.bool hb) ?_
      refine At.condF rfl ?_
      refine At.skip ?_
      refine At.thenN ?_
      refine At.seq ?_
      have hcnt := (count_le p.body hwi).1
      have hand : 0 ≤ bits .and .i64 n 65535 ∧ bits .and .i64 n 65535 ≤ 65535 := and_range n (n := 65535) (by decide)
      have htm := tmod_range hand.1 (show 0 < countS p.body by omega)
      have hcn2 := (count_le p.body hwi).2
      refine At.region ?_
      refine At.move rfl rfl ?_
      refine At.andI rfl rfl rfl ?_
      refine At.fieldAddr rfl fo35_2 rfl ?_
      refine At.load rfl (Ld.ownPart ag33 (sz33.trans (congrArg some ((hp).bodyOk).size.symm)) hb1 (hp).bodyCs) rfl ?_
      refine At.call en23 rfl rfl (count_any p.body _ (((hp).bodyOk).keep hB)) (fun e w6 hR => ?_)
      obtain ⟨rfl, hbl5⟩ := hR
      refine ⟨_, rfl, ?_⟩
      replace hb1 := Below.old hbl5 hb1
      replace hst1 := hst1.below hbl5
      replace hB := Below.andThen hB hbl5
      refine At.remI rfl rfl (by omega) rfl ?_
      refine At.addI rfl rfl rfl (by omega) ?_
      refine At.assign rfl rfl ?_
      refine At.ops0 ?_
      refine At.thenN ?_
      refine At.seq ?_
      refine At.region ?_
      refine At.fieldAddr rfl fo35_2 rfl ?_
      refine At.load rfl (Ld.ownPart ag33 (sz33.trans (congrArg some ((hp).bodyOk).size.symm)) hb1 (hp).bodyCs) rfl ?_
      refine At.move rfl rfl ?_
      refine At.move rfl rfl ?_
      have hMa1 : MOk w.heap.size [some b1] := (MOk.blk gb1 (MOk.nil _))
      have hMb1 : MLt w6.heap.size [some b1] := (MLt.blk hb1 (MLt.nil _))
      have hsz1 := hB.size
      refine At.call en24 rfl rfl (put_any name p.body (1 + ((bits .and .i64 n 65535).tmod (countS p.body))) _ (((hp).bodyOk).keep hB) (by omega) (by omega) (Nat.le_trans hwb (by decide))) (fun e w7 hR => ?_)
      obtain ⟨tq1, nq1, rfl, hbl6, hok1, hput1, hqn1, hqm1⟩ := hR
      refine ⟨_, rfl, ?_⟩
      have hx1 : Xs kTm [some b1] w7 [tq1] := Xs.of_new (B := w.heap.size) hok1 (PutT.base hput1 (hp).bodyOk) hMa1 hMb1
      replace hb1 := Below.old hbl6 hb1
      replace hst1 := hst1.below hbl6
      replace hB := Below.andThen hB hbl6
      refine At.move rfl rfl ?_
      refine At.extract rfl rfl rfl ?_
      refine At.extract rfl rfl rfl ?_
      refine At.fieldAddr rfl fo35_2 rfl ?_
      refine At.storePart (cs := tq1.cs) rfl rfl hb1 (sz33.trans (congrArg some ((Xs.one hx1)).size.symm)) (by rw [((Xs.one hx1)).size, (hp).size]; first | done | decide) ((Xs.one hx1)).one (fun w8 S1 => ?_)
      clear hst1
      replace hx1 := Xs.set hx1 S1 (by simp)
      replace hb1 : w8.heap[b1]? = some (.cells (Pr.withBody p tq1).cs 35) := S1.new
      replace hB := S1.below' hB gb1
      refine At.ops0 ?_
      refine At.thenN ?_
      refine At.seq ?_
      refine At.region ?_
      refine At.load rfl (Ld.own ag35 (sz35.trans (congrArg some ((PrOk.withBody ((hp).keep hB) (((Xs.one hx1)).keep (Below.refl _ _)))).size.symm)) hb1) rfl ?_
      refine At.call en12 rfl rfl (check_any (Pr.withBody p tq1) _ (((PrOk.withBody ((hp).keep hB) (((Xs.one hx1)).keep (Below.refl _ _)))).keep (Below.refl _ _)) (PrSz.of_eq (p := p) rfl rfl hz) (Nat.le_trans (Nat.le_trans hput1.2.1 hwb) (by decide))) (fun e w9 hR => ?_)
      obtain ⟨rfl, hbl7⟩ := hR
      refine ⟨_, rfl, ?_⟩
      replace hb1 := Below.old hbl7 hb1
      replace hx1 := Xs.below hx1 hbl7
      replace hB := Below.andThen hB hbl7
      refine At.move rfl rfl ?_
      refine At.extract rfl rfl rfl ?_
      refine At.extract rfl rfl rfl ?_
      refine At.assign rfl rfl ?_
      refine At.assign rfl rfl ?_
      refine At.ops0 ?_
      refine At.thenN ?_
      refine At.seq ?_
      refine At.region ?_
      refine At.move rfl rfl ?_
      refine At.move rfl rfl ?_
      refine At.yes rfl rfl rfl rfl ?_
      refine At.move rfl rfl ?_
      refine At.yes rfl rfl rfl rfl ?_
      refine At.eqI rfl rfl rfl ?_
      refine At.yes rfl rfl rfl rfl ?_
      refine At.fieldAddr rfl fo35_2 rfl ?_
      refine At.yes rfl rfl rfl rfl ?_
      refine At.load rfl (Ld.ownPart ag33 (sz33.trans (congrArg some (((PrOk.withBody ((hp).keep hB) (((Xs.one hx1)).keep (Below.refl _ _)))).bodyOk).size.symm)) hb1 ((PrOk.withBody ((hp).keep hB) (((Xs.one hx1)).keep (Below.refl _ _)))).bodyCs) rfl ?_
      refine At.yes rfl rfl rfl rfl ?_
      refine At.call en22 rfl rfl (free_any (Pr.withBody p tq1).body _ ((((PrOk.withBody ((hp).keep hB) (((Xs.one hx1)).keep (Below.refl _ _)))).bodyOk).keep (Below.refl _ _)) (Nat.le_trans hput1.2.1 (Nat.le_trans hwb (by decide)))) (fun e w10 hR => ?_)
      obtain ⟨vs2, ls2, rfl, hbl8, hst2, hFr2⟩ := hR
      refine ⟨_, rfl, ?_⟩
      replace hb1 := Below.old hbl8 hb1
      replace hx1 := Xs.below hx1 hbl8
      replace hB := Below.andThen hB hbl8
      refine At.yes rfl rfl rfl rfl ?_
      refine At.lenSl rfl (hst2).ok el27 rfl ?_
      refine At.yes rfl rfl rfl rfl ?_
      refine At.eqI rfl rfl rfl ?_
      refine At.yes rfl rfl rfl rfl ?_
      refine At.eqB rfl rfl bo4 rfl ?_
      refine At.pickT rfl rfl rfl ?_
      refine At.assign rfl rfl ?_
      refine At.ops0 ?_
      refine At.thenN ?_
      refine At.retc ?_
      refine At.doneR (ResV.tmp rfl ResV.nil) ?_
      exact ⟨congrArg Ending.returned (congrArg Value.bool (unbound_law hok (hput1.1 p hrf.2) (by have := hput1.2.1; omega) hFr2)), hB⟩
end Go.Proofs.Ytkclfcdppnlkbaa
