/-
  The walks of the declarations' check: what each call does, for every argument that lies so in memory. Written by a program of ours.
-/
import Derived.Test.YtkclfcdppnlkbaaW3
set_option linter.unusedVariables false
set_option linter.unusedSimpArgs false
namespace Go.Proofs.Ytkclfcdppnlkbaa
open Go.RowKit
theorem ag75 : aggB Try.prog 75 = some true := by kernel_rfl
theorem en40 : entB Try.prog 40 = true := by kernel_rfl
theorem fo45_1 : fieldB Try.prog 45 1 = some (1, 6) := by kernel_rfl
theorem fo45_2 : fieldB Try.prog 45 2 = some (7, 6) := by kernel_rfl
theorem sz75 : sizeB Try.prog 75 = some 23 := by kernel_rfl
theorem effects_any (p : Pr) (w : World) (hp : PrOk w p) (hz : PrSz p) :
    Calls Try.prog 26 ([.agg p.cs] : List Value).toArray w fun e w' => e = .returned (.bool (effsB p.dats [con_] [] p.effs)) ∧ Below w.heap.size w w' := by
  have hB := Below.refl w.heap.size w
  refine At.enter (N := 57) Try.func26 rfl rfl (by simp) [(0, .agg p.cs)] (by simp) ?_
  refine At.seq ?_
  refine At.region ?_
  refine At.box rfl rfl (fun b1 w1 F1 => ?_)
  have gb1 := F1.ge hB
  have hb1 : w1.heap[b1]? = some (.cells p.cs 75) := F1.new
  replace hB := F1.below' hB
  refine At.assign rfl rfl ?_
  refine At.ops0 ?_
  refine At.thenN ?_
  refine At.seq ?_
  refine At.region ?_
  refine At.buildSlice (xs := [.const (.string (⟨#[99, 111, 110, 115, 111, 108, 101]⟩ : ByteArray))]) rfl rfl el27 sz9 ze9 (by intro v hv; simp only [List.mem_cons, List.not_mem_nil, or_false] at hv; rcases hv with rfl <;> first | rfl | simp [Value.cells, Value.cells]) rfl (by decide) rfl (fun b2 w2 F2 => ?_)
  have n_b1_b2 : b1 ≠ b2 := Nat.ne_of_lt (F2.lt hb1)
  have gb2 := F2.ge hB
  replace hb1 := F2.old hb1
  have hb2 : w2.heap[b2]? = some (.cells #[.string (⟨#[99, 111, 110, 115, 111, 108, 101]⟩ : ByteArray)] 9) := F2.new
  replace hB := F2.below' hB
  have hs1 : StrsAt w2 (.slice (some ⟨b2, 0, none⟩) 1 1) [(⟨#[99, 111, 110, 115, 111, 108, 101]⟩ : ByteArray)] := StrsAt.own (ss := [(⟨#[99, 111, 110, 115, 111, 108, 101]⟩ : ByteArray)]) hb2 rfl (by decide)
  refine At.build (C := #[(.slice (some ⟨b2, 0, none⟩) 1 1)]) sd87 ze87 rfl (Bld.one fo87_0 ((hs1).ok).one (by first | decide | simp [Value.cells]) (Bld.nil _)) rfl ?_
  refine At.build (C := #[(.slice none 0 0)]) sd87 ze87 rfl (Bld.nil _) rfl ?_
  refine At.alloc ze87 rfl (fun b3 w3 F3 => ?_)
  have n_b1_b3 : b1 ≠ b3 := Nat.ne_of_lt (F3.lt hb1)
  have n_b2_b3 : b2 ≠ b3 := Nat.ne_of_lt (F3.lt hb2)
  have gb3 := F3.ge hB
  replace hb1 := F3.old hb1
  replace hb2 := F3.old hb2
  have hb3 : w3.heap[b3]? = some (.cells #[(.slice none 0 0)] 87) := F3.new
  replace hB := F3.below' hB
  refine At.alloc ze87 rfl (fun b4 w4 F4 => ?_)
  have n_b1_b4 : b1 ≠ b4 := Nat.ne_of_lt (F4.lt hb1)
  have n_b2_b4 : b2 ≠ b4 := Nat.ne_of_lt (F4.lt hb2)
  have n_b3_b4 : b3 ≠ b4 := Nat.ne_of_lt (F4.lt hb3)
  have gb4 := F4.ge hB
  replace hb1 := F4.old hb1
  replace hb2 := F4.old hb2
  replace hb3 := F4.old hb3
  have hb4 : w4.heap[b4]? = some (.cells #[(.slice none 0 0)] 87) := F4.new
  replace hB := F4.below' hB
  refine At.storeAll rfl rfl hb3 sz87 rfl (by simp [Value.oneCell', ((hs1).ok).one]) (fun w5 S1 => ?_)
  replace hb1 := S1.other hb1 n_b1_b3
  replace hb2 := S1.other hb2 n_b2_b3
  replace hb4 := S1.other hb4 n_b3_b4.symm
  replace hb3 : w5.heap[b3]? = some (.cells #[(.slice (some ⟨b2, 0, none⟩) 1 1)] 87) := S1.new
  replace hB := S1.below' hB gb3
  refine At.storeAll rfl rfl hb4 sz87 rfl (by simp [Value.oneCell', ((SlOk.nil)).one]) (fun w6 S2 => ?_)
  replace hb1 := S2.other hb1 n_b1_b4
  replace hb2 := S2.other hb2 n_b2_b4
  replace hb3 := S2.other hb3 n_b3_b4
  replace hb4 : w6.heap[b4]? = some (.cells #[(.slice none 0 0)] 87) := S2.new
  replace hB := S2.below' hB gb4
  refine At.ops0 ?_
  refine At.thenN ?_
  refine At.seq ?_
  refine At.seq ?_
  refine At.region ?_
  refine At.fieldAddr rfl fo75_0 rfl ?_
  refine At.fieldAddr rfl fo35_0 rfl ?_
  refine At.load rfl (Ld.ownCell ag22 hb1 (hp).c0) rfl ?_
  refine At.lenSl rfl ((hp).effsAt).okL el22 rfl ?_
  refine At.move rfl rfl ?_
  refine At.ops0 ?_
  refine At.thenN ?_
  refine At.block ?_
  have hrA : OwnS 9 w6 (.slice (some ⟨b2, 0, none⟩) 1 1) [con_] := OwnS.made (ss := [con_]) hb2 rfl (by decide)
  have gA : ∀ g, Value.ownBlock (.slice (some ⟨b2, 0, none⟩) 1 1) = some g → w.heap.size ≤ g := fun g h => by cases h; exact gb2
  have hrB : OwnS 9 w6 (.slice none 0 0) [] := OwnS.nil _ _
  have gB : ∀ g, Value.ownBlock (.slice none 0 0) = some g → w.heap.size ≤ g := fun g h => by cases h
  refine At.loop (Nat × Value × Value) (fun (k, vA, vB) => [(1, .pointer (some ⟨b1, 0, none⟩)), (3, .pointer (some ⟨b3, 0, none⟩)), (4, .pointer (some ⟨b4, 0, none⟩)), (14, p.ev), (15, .int .i64 (p.effs.length : Int)), (16, .int .i64 (k : Int))]) (fun (k, vA, vB) w7 => Below w.heap.size w w7 ∧ w7.heap[b1]? = some (.cells p.cs 75) ∧ w7.heap[b3]? = some (.cells #[vA] 87) ∧ w7.heap[b4]? = some (.cells #[vB] 87) ∧ OwnS 9 w7 vA ([con_] ++ (p.effs.take k).map Eff.nm) ∧ OwnS 9 w7 vB ((p.effs.take k).flatMap fun e => e.ops.map Op.nm) ∧ (∀ g, vA.ownBlock = some g → w.heap.size ≤ g) ∧ (∀ g, vB.ownBlock = some g → w.heap.size ≤ g) ∧ (Apart vA vB) ∧ (k ≤ p.effs.length) ∧ (effsB p.dats ([con_] ++ (p.effs.take k).map Eff.nm) ((p.effs.take k).flatMap fun e => e.ops.map Op.nm) (p.effs.drop k) = effsB p.dats [con_] [] p.effs)) (fun (k, vA, vB) => p.effs.length - k) (0, (.slice (some ⟨b2, 0, none⟩) 1 1), .slice none 0 0) (Sub.cons rfl (Sub.cons rfl (Sub.cons rfl (Sub.cons rfl (Sub.cons rfl (Sub.cons rfl Sub.nil)))))) ⟨hB, hb1, hb3, hb4, hrA, hrB, (gA), (gB), (Apart.nil _), (Nat.zero_le _), (rfl)⟩ (fun gh w7 hI => ?_)
  obtain ⟨k, vA, vB⟩ := gh
  clear hB hb1 hb2 hb3 hb4
  obtain ⟨hB, hb1, hb3, hb4, hrA, hrB, gA, gB, ap, hkb, hn⟩ := hI
  show At _ _ [(1, .pointer (some ⟨b1, 0, none⟩)), (3, .pointer (some ⟨b3, 0, none⟩)), (4, .pointer (some ⟨b4, 0, none⟩)), (14, p.ev), (15, .int .i64 (p.effs.length : Int)), (16, .int .i64 (k : Int))] _ _
  refine At.seq ?_
  refine At.region ?_
  refine At.lss rfl rfl rfl ?_
  refine At.ops0 ?_
  refine At.thenN ?_
  refine At.seq ?_
  refine At.cond (b := decide ((k : Int) < (p.effs.length : Int))) rfl (fun hc1 => ?_) (fun hc1 => ?_)
  · skip
    have hc1' := of_decide_eq_true hc1
    refine At.skip ?_
    refine At.thenN ?_
    refine At.seq ?_
    refine At.block ?_
    refine At.seq ?_
    refine At.region ?_
    obtain ⟨u1, hu1⟩ := some_of_lt (l := p.effs) (i := k) (by first | omega | (have := hz.effs; omega) | (have := hz.ops _ (List.mem_of_getElem? hu1); omega))
    refine At.indexAddr (i := k) rfl rfl ((hp).effsAt).okL (lt_of_some hu1) el22 sz43 rfl ?_
    refine At.load rfl (Ld.row ag43 (sz43.trans (congrArg some (((hp).eff hu1)).size.symm)) ((((hp).effsAt).row hu1).keep hB)) rfl ?_
    refine At.alloc ze43 rfl (fun b5 w8 F5 => ?_)
    have n_b1_b5 : b1 ≠ b5 := Nat.ne_of_lt (F5.lt hb1)
    have n_b3_b5 : b3 ≠ b5 := Nat.ne_of_lt (F5.lt hb3)
    have n_b4_b5 : b4 ≠ b5 := Nat.ne_of_lt (F5.lt hb4)
    have gb5 := F5.ge hB
    replace hb1 := F5.old hb1
    replace hb3 := F5.old hb3
    replace hb4 := F5.old hb4
    replace hrA := hrA.fresh F5
    replace hrB := hrB.fresh F5
    have hb5 : w8.heap[b5]? = some (.cells #[.string (⟨#[]⟩ : ByteArray), (.slice none 0 0)] 43) := F5.new
    replace hB := F5.below' hB
    refine At.storeAll rfl rfl hb5 (sz43.trans (congrArg some (((hp).eff hu1)).size.symm)) (((hp).eff hu1)).size.symm (((hp).eff hu1)).one (fun w9 S3 => ?_)
    replace hb1 := S3.other hb1 n_b1_b5
    replace hb3 := S3.other hb3 n_b3_b5
    replace hb4 := S3.other hb4 n_b4_b5
    replace hrA := hrA.set S3 (hrA.neT hb5 rfl)
    replace hrB := hrB.set S3 (hrB.neT hb5 rfl)
    replace hb5 : w9.heap[b5]? = some (.cells u1.cs 43) := S3.new
    replace hB := S3.below' hB gb5
    refine At.ops0 ?_
    refine At.thenN ?_
    refine At.seq ?_
    refine At.seq ?_
    refine At.region ?_
    refine At.fieldAddr rfl fo43_0 rfl ?_
    refine At.load rfl (Ld.ownCell ag9 hb5 (((hp).eff hu1)).c0) rfl ?_
    refine At.eqS rfl rfl rfl ?_
    refine At.move rfl rfl ?_
    refine At.cases (decide (u1.nm = (⟨#[]⟩ : ByteArray))) (fun hg1 => ?_) (fun hg1 => ?_)
    · skip
      refine At.set (d := 23) (u := .bool true) rfl (congrArg Value.bool hg1) ?_
      have hg1' := of_decide_eq_true hg1
      refine At.no rfl rfl rfl rfl rfl rfl rfl ?_
      refine At.no rfl rfl rfl rfl rfl rfl rfl ?_
      refine At.no rfl rfl rfl rfl rfl rfl rfl ?_
      refine At.no rfl rfl rfl rfl rfl rfl rfl ?_
      refine At.pickT rfl rfl rfl ?_
      refine At.ops0 ?_
      refine At.thenN ?_
      refine At.condT rfl ?_
      refine At.seq ?_
      refine At.region ?_
      refine At.assign rfl rfl ?_
      refine At.ops0 ?_
      refine At.thenN ?_
      refine At.retc ?_
      refine At.thenR ?_
      refine At.inR ?_
      refine At.thenR ?_
      refine At.thenR ?_
      refine At.inR ?_
      refine At.thenR ?_
      refine At.doneR (ResV.tmp rfl ResV.nil) ?_
      have hbad : (decide (u1.nm = (⟨#[]⟩ : ByteArray)) || memB u1.nm ([con_] ++ (p.effs.take k).map Eff.nm)) = true := by have e0 := hg1; (try simp only [Bool.not_eq_true', Bool.not_eq_false', Bool.not_not, List.all_cons, List.all_nil, Bool.and_true] at e0 ⊢); simp only [e0, Bool.true_or, Bool.or_true]
      exact ⟨congrArg Ending.returned (congrArg Value.bool (Eq.symm (by rw [← hn, effsB_bad hu1 hbad]))), hB⟩
    · skip
      refine At.set (d := 23) (u := .bool false) rfl (congrArg Value.bool hg1) ?_
      have hg1' := of_decide_eq_false hg1
      refine At.yes rfl rfl rfl rfl ?_
      refine At.fieldAddr rfl fo43_0 rfl ?_
      refine At.yes rfl rfl rfl rfl ?_
      refine At.load rfl (Ld.ownCell ag9 hb5 (((hp).eff hu1)).c0) rfl ?_
      refine At.yes rfl rfl rfl rfl ?_
      refine At.call en39 rfl rfl (fresh_any b3 vA ([con_] ++ (p.effs.take k).map Eff.nm) u1.nm _ hb3 hrA (by have := hz.effs; simp only [List.length_append, List.length_cons, List.length_nil, List.length_map, List.length_take]; omega)) (fun e w10 hR' => ?_)
      obtain ⟨va1, rfl, hb3', hO1, hF1, hM1⟩ := hR'
      refine ⟨_, rfl, ?_⟩
      have ap_hO1 := Apart.moved (ap) hM1 hrB
      replace hrB := OwnS.apart hrB hF1 hb3 rfl (Apart.symm ap)
      replace hb1 := hF1.old _ _ (fun e => e.elim n_b1_b3 (hrA.neT hb1 rfl)) hb1
      replace hb4 := hF1.old _ _ (fun e => e.elim (Ne.symm n_b3_b4) (hrA.neT hb4 rfl)) hb4
      replace hb5 := hF1.old _ _ (fun e => e.elim (Ne.symm n_b3_b5) (hrA.neT hb5 rfl)) hb5
      replace hb3 := hb3'
      have ghO1 := hM1.ge hB.size gA
      replace hB := hF1.below hB hB.size (fun k hk => hk.elim (fun e => e ▸ gb3) (fun e => gA _ e.symm))
      refine At.yes rfl rfl rfl rfl ?_
      refine At.not rfl rfl ?_
      refine At.pickF rfl rfl rfl ?_
      refine At.ops0 ?_
      refine At.thenN ?_
      refine At.cond (b := (!(!memB u1.nm ([con_] ++ (p.effs.take k).map Eff.nm)))) rfl (fun hc2 => ?_) (fun hc2 => ?_)
      · skip
        refine At.seq ?_
        refine At.region ?_
        refine At.assign rfl rfl ?_
        refine At.ops0 ?_
        refine At.thenN ?_
        refine At.retc ?_
        refine At.thenR ?_
        refine At.inR ?_
        refine At.thenR ?_
        refine At.thenR ?_
        refine At.inR ?_
        refine At.thenR ?_
        refine At.doneR (ResV.tmp rfl ResV.nil) ?_
        have hbad : (decide (u1.nm = (⟨#[]⟩ : ByteArray)) || memB u1.nm ([con_] ++ (p.effs.take k).map Eff.nm)) = true := by have e0 := hg1; have e1 := hc2; (try simp only [Bool.not_eq_true', Bool.not_eq_false', Bool.not_not, List.all_cons, List.all_nil, Bool.and_true] at e0 e1 ⊢); simp only [e0, e1, Bool.true_or, Bool.or_true]
        exact ⟨congrArg Ending.returned (congrArg Value.bool (Eq.symm (by rw [← hn, effsB_bad hu1 hbad]))), hB⟩
      · skip
        refine At.skip ?_
        refine At.thenN ?_
        refine At.seq ?_
        refine At.region ?_
        refine At.fieldAddr rfl fo43_1 rfl ?_
        refine At.load rfl (Ld.ownCell ag41 hb5 (((hp).eff hu1)).c1) rfl ?_
        refine At.lenSl rfl ((((hp).eff hu1)).opsAt).okL el41 rfl ?_
        refine At.move rfl rfl ?_
        refine At.ops0 ?_
        refine At.thenN ?_
        refine At.block ?_
        have hfl := flat_le1 (fun e : Eff => e.ops.map Op.nm) hu1
        have hsum := hz.opsAll
        simp only [List.length_map] at hfl
        refine At.loop (Nat × Value) (fun (j, vB') => [(1, .pointer (some ⟨b1, 0, none⟩)), (3, .pointer (some ⟨b3, 0, none⟩)), (4, .pointer (some ⟨b4, 0, none⟩)), (14, p.ev), (15, .int .i64 (p.effs.length : Int)), (16, .int .i64 (k : Int)), (30, u1.ov), (31, .int .i64 (u1.ops.length : Int)), (32, .int .i64 (j : Int))]) (fun (j, vB') w11 => Below w.heap.size w w11 ∧ w11.heap[b1]? = some (.cells p.cs 75) ∧ w11.heap[b3]? = some (.cells #[va1] 87) ∧ w11.heap[b4]? = some (.cells #[vB'] 87) ∧ OwnS 9 w11 va1 (([con_] ++ (p.effs.take k).map Eff.nm) ++ [u1.nm]) ∧ OwnS 9 w11 vB' (((p.effs.take k).flatMap fun e => e.ops.map Op.nm) ++ (u1.ops.take j).map Op.nm) ∧ (∀ g, vB'.ownBlock = some g → w.heap.size ≤ g) ∧ (Apart va1 vB') ∧ (j ≤ u1.ops.length) ∧ (opsB p.dats (((p.effs.take k).flatMap fun e => e.ops.map Op.nm) ++ (u1.ops.take j).map Op.nm) (u1.ops.drop j) = opsB p.dats ((p.effs.take k).flatMap fun e => e.ops.map Op.nm) u1.ops)) (fun (j, vB') => u1.ops.length - j) (0, vB) (Sub.cons rfl (Sub.cons rfl (Sub.cons rfl (Sub.cons rfl (Sub.cons rfl (Sub.cons rfl (Sub.cons rfl (Sub.cons rfl (Sub.cons rfl Sub.nil))))))))) ⟨hB, hb1, hb3, hb4, hO1, (by rw [List.take_zero, List.map_nil, List.append_nil]; exact hrB), (gB), (ap_hO1), (Nat.zero_le _), (by rw [List.take_zero, List.map_nil, List.append_nil]; rfl)⟩ (fun gh w11 hI => ?_)
        obtain ⟨j, vB'⟩ := gh
        clear hB hb1 hb3 hb4 hb5 hrB hO1
        obtain ⟨hB, hb1, hb3, hb4, hO1, hrB', gB', ap2, hjb, hn2⟩ := hI
        show At _ _ [(1, .pointer (some ⟨b1, 0, none⟩)), (3, .pointer (some ⟨b3, 0, none⟩)), (4, .pointer (some ⟨b4, 0, none⟩)), (14, p.ev), (15, .int .i64 (p.effs.length : Int)), (16, .int .i64 (k : Int)), (30, u1.ov), (31, .int .i64 (u1.ops.length : Int)), (32, .int .i64 (j : Int))] _ _
        refine At.seq ?_
        refine At.region ?_
        refine At.lss rfl rfl rfl ?_
        refine At.ops0 ?_
        refine At.thenN ?_
        refine At.seq ?_
        refine At.cond (b := decide ((j : Int) < (u1.ops.length : Int))) rfl (fun hc3 => ?_) (fun hc3 => ?_)
        · skip
          have hc3' := of_decide_eq_true hc3
          refine At.skip ?_
          refine At.thenN ?_
          refine At.seq ?_
          refine At.block ?_
          refine At.seq ?_
          refine At.region ?_
          obtain ⟨u2, hu2⟩ := some_of_lt (l := u1.ops) (i := j) (by first | omega | (have := hz.effs; omega) | (have := hz.ops _ (List.mem_of_getElem? hu1); omega))
          refine At.indexAddr (i := j) rfl rfl ((((hp).eff hu1)).opsAt).okL (lt_of_some hu2) el41 sz45 rfl ?_
          refine At.load rfl (Ld.row ag45 (sz45.trans (congrArg some (((((hp).eff hu1)).op hu2)).size.symm)) ((((((hp).eff hu1)).opsAt).row hu2).keep hB)) rfl ?_
          refine At.alloc ze45 rfl (fun b6 w12 F6 => ?_)
          have n_b1_b6 : b1 ≠ b6 := Nat.ne_of_lt (F6.lt hb1)
          have n_b3_b6 : b3 ≠ b6 := Nat.ne_of_lt (F6.lt hb3)
          have n_b4_b6 : b4 ≠ b6 := Nat.ne_of_lt (F6.lt hb4)
          have gb6 := F6.ge hB
          replace hb1 := F6.old hb1
          replace hb3 := F6.old hb3
          replace hb4 := F6.old hb4
          replace hO1 := hO1.fresh F6
          replace hrB' := hrB'.fresh F6
          have hb6 : w12.heap[b6]? = some (.cells #[.string (⟨#[]⟩ : ByteArray), .int .i64 0, .string (⟨#[]⟩ : ByteArray), .int .i64 0, (.slice none 0 0), (.slice none 0 0), .int .i64 0, .int .i64 0, .string (⟨#[]⟩ : ByteArray), .int .i64 0, (.slice none 0 0), (.slice none 0 0), .int .i64 0] 45) := F6.new
          replace hB := F6.below' hB
          refine At.storeAll rfl rfl hb6 (sz45.trans (congrArg some (((((hp).eff hu1)).op hu2)).size.symm)) (((((hp).eff hu1)).op hu2)).size.symm (((((hp).eff hu1)).op hu2)).one (fun w13 S4 => ?_)
          replace hb1 := S4.other hb1 n_b1_b6
          replace hb3 := S4.other hb3 n_b3_b6
          replace hb4 := S4.other hb4 n_b4_b6
          replace hO1 := hO1.set S4 (hO1.neT hb6 rfl)
          replace hrB' := hrB'.set S4 (hrB'.neT hb6 rfl)
          replace hb6 : w13.heap[b6]? = some (.cells u2.cs 45) := S4.new
          replace hB := S4.below' hB gb6
          refine At.ops0 ?_
          refine At.thenN ?_
          refine At.seq ?_
          refine At.region ?_
          refine At.fieldAddr rfl fo45_0 rfl ?_
          refine At.load rfl (Ld.ownCell ag9 hb6 (((((hp).eff hu1)).op hu2)).c0) rfl ?_
          refine At.eqS rfl rfl rfl ?_
          refine At.move rfl rfl ?_
          refine At.cases (decide (u2.nm = (⟨#[]⟩ : ByteArray))) (fun hg2 => ?_) (fun hg2 => ?_)
          · skip
            refine At.set (d := 39) (u := .bool true) rfl (congrArg Value.bool hg2) ?_
            have hg2' := of_decide_eq_true hg2
            refine At.no rfl rfl rfl rfl rfl rfl rfl ?_
            refine At.no rfl rfl rfl rfl rfl rfl rfl ?_
            refine At.no rfl rfl rfl rfl rfl rfl rfl ?_
            refine At.no rfl rfl rfl rfl rfl rfl rfl ?_
            refine At.pickT rfl rfl rfl ?_
            refine At.move rfl rfl ?_
            refine At.no rfl rfl rfl rfl rfl rfl rfl ?_
            refine At.no rfl rfl rfl rfl rfl rfl rfl ?_
            refine At.no rfl rfl rfl rfl rfl rfl rfl ?_
            refine At.no rfl rfl rfl rfl rfl rfl rfl ?_
            refine At.no rfl rfl rfl rfl rfl rfl rfl ?_
            refine At.no rfl rfl rfl rfl rfl rfl rfl ?_
            refine At.no rfl rfl rfl rfl rfl rfl rfl ?_
            refine At.no rfl rfl rfl rfl rfl rfl rfl ?_
            refine At.pickT rfl rfl rfl ?_
            refine At.ops0 ?_
            refine At.thenN ?_
            refine At.condT rfl ?_
            refine At.seq ?_
            refine At.region ?_
            refine At.assign rfl rfl ?_
            refine At.ops0 ?_
            refine At.thenN ?_
            refine At.retc ?_
            refine At.inR ?_
            refine At.thenR ?_
            refine At.thenR ?_
            refine At.inR ?_
            refine At.inR ?_
            refine At.thenR ?_
            refine At.thenR ?_
            refine At.inR ?_
            refine At.thenR ?_
            refine At.doneR (ResV.tmp rfl ResV.nil) ?_
            have hgood : (decide (u1.nm = (⟨#[]⟩ : ByteArray)) || memB u1.nm ([con_] ++ (p.effs.take k).map Eff.nm)) = false := by have e1 := hg1; have e2 := hc2; (try simp only [Bool.not_eq_true', Bool.not_eq_false', Bool.not_not, List.all_cons, List.all_nil, Bool.and_true] at e1 e2 ⊢); simp only [e1, e2, Bool.or_self]
            have hbad : ((decide (u2.nm = (⟨#[]⟩ : ByteArray)) || memB u2.nm (((p.effs.take k).flatMap fun e => e.ops.map Op.nm) ++ (u1.ops.take j).map Op.nm)) || !(knownT p.dats u2.arg && knownT p.dats u2.res)) = true := by have e0 := hg2; (try simp only [Bool.not_eq_true', Bool.not_eq_false', Bool.not_not, List.all_cons, List.all_nil, Bool.and_true] at e0 ⊢); simp only [e0, Bool.true_or, Bool.or_true, Bool.not_false, Bool.false_and, Bool.and_false]
            exact ⟨congrArg Ending.returned (congrArg Value.bool (Eq.symm (by rw [← hn, effsB_step hu1 hgood, ← hn2, opsB_bad hu2 hbad]; rfl))), hB⟩
          · skip
            refine At.set (d := 39) (u := .bool false) rfl (congrArg Value.bool hg2) ?_
            have hg2' := of_decide_eq_false hg2
            refine At.yes rfl rfl rfl rfl ?_
            refine At.fieldAddr rfl fo45_0 rfl ?_
            refine At.yes rfl rfl rfl rfl ?_
            refine At.load rfl (Ld.ownCell ag9 hb6 (((((hp).eff hu1)).op hu2)).c0) rfl ?_
            refine At.yes rfl rfl rfl rfl ?_
            refine At.call en39 rfl rfl (fresh_any b4 vB' (((p.effs.take k).flatMap fun e => e.ops.map Op.nm) ++ (u1.ops.take j).map Op.nm) u2.nm _ hb4 hrB' (by have := List.length_take_le j u1.ops; simp only [List.length_append, List.length_map, List.length_take]; omega)) (fun e w14 hR' => ?_)
            obtain ⟨va2, rfl, hb4', hO2, hF2, hM2⟩ := hR'
            refine ⟨_, rfl, ?_⟩
            have ap_hO2 := Apart.moved (Apart.symm ap2) hM2 hO1
            replace hO1 := OwnS.apart hO1 hF2 hb4 rfl (ap2)
            replace hb1 := hF2.old _ _ (fun e => e.elim n_b1_b4 (hrB'.neT hb1 rfl)) hb1
            replace hb3 := hF2.old _ _ (fun e => e.elim n_b3_b4 (hrB'.neT hb3 rfl)) hb3
            replace hb6 := hF2.old _ _ (fun e => e.elim (Ne.symm n_b4_b6) (hrB'.neT hb6 rfl)) hb6
            replace hb4 := hb4'
            have ghO2 := hM2.ge hB.size gB'
            replace hB := hF2.below hB hB.size (fun k hk => hk.elim (fun e => e ▸ gb4) (fun e => gB' _ e.symm))
            refine At.yes rfl rfl rfl rfl ?_
            refine At.not rfl rfl ?_
            refine At.pickF rfl rfl rfl ?_
            refine At.move rfl rfl ?_
            refine At.cases ((!(!memB u2.nm (((p.effs.take k).flatMap fun e => e.ops.map Op.nm) ++ (u1.ops.take j).map Op.nm)))) (fun hg3 => ?_) (fun hg3 => ?_)
            · skip
              refine At.set (d := 45) (u := .bool true) rfl (congrArg Value.bool hg3) ?_
              refine At.no rfl rfl rfl rfl rfl rfl rfl ?_
              refine At.no rfl rfl rfl rfl rfl rfl rfl ?_
              refine At.no rfl rfl rfl rfl rfl rfl rfl ?_
              refine At.no rfl rfl rfl rfl rfl rfl rfl ?_
              refine At.no rfl rfl rfl rfl rfl rfl rfl ?_
              refine At.no rfl rfl rfl rfl rfl rfl rfl ?_
              refine At.no rfl rfl rfl rfl rfl rfl rfl ?_
              refine At.no rfl rfl rfl rfl rfl rfl rfl ?_
              refine At.pickT rfl rfl rfl ?_
              refine At.ops0 ?_
              refine At.thenN ?_
              refine At.condT rfl ?_
              refine At.seq ?_
              refine At.region ?_
              refine At.assign rfl rfl ?_
              refine At.ops0 ?_
              refine At.thenN ?_
              refine At.retc ?_
              refine At.inR ?_
              refine At.thenR ?_
              refine At.thenR ?_
              refine At.inR ?_
              refine At.inR ?_
              refine At.thenR ?_
              refine At.thenR ?_
              refine At.inR ?_
              refine At.thenR ?_
              refine At.doneR (ResV.tmp rfl ResV.nil) ?_
              have hgood : (decide (u1.nm = (⟨#[]⟩ : ByteArray)) || memB u1.nm ([con_] ++ (p.effs.take k).map Eff.nm)) = false := by have e1 := hg1; have e2 := hc2; (try simp only [Bool.not_eq_true', Bool.not_eq_false', Bool.not_not, List.all_cons, List.all_nil, Bool.and_true] at e1 e2 ⊢); simp only [e1, e2, Bool.or_self]
              have hbad : ((decide (u2.nm = (⟨#[]⟩ : ByteArray)) || memB u2.nm (((p.effs.take k).flatMap fun e => e.ops.map Op.nm) ++ (u1.ops.take j).map Op.nm)) || !(knownT p.dats u2.arg && knownT p.dats u2.res)) = true := by have e0 := hg2; have e1 := hg3; (try simp only [Bool.not_eq_true', Bool.not_eq_false', Bool.not_not, List.all_cons, List.all_nil, Bool.and_true] at e0 e1 ⊢); simp only [e0, e1, Bool.true_or, Bool.or_true, Bool.not_false, Bool.false_and, Bool.and_false]
              exact ⟨congrArg Ending.returned (congrArg Value.bool (Eq.symm (by rw [← hn, effsB_step hu1 hgood, ← hn2, opsB_bad hu2 hbad]; rfl))), hB⟩
            · skip
              refine At.set (d := 45) (u := .bool false) rfl (congrArg Value.bool hg3) ?_
              refine At.yes rfl rfl rfl rfl ?_
              refine At.load rfl (Ld.own ag75 (sz75.trans (congrArg some (hp).size.symm)) hb1) rfl ?_
              refine At.yes rfl rfl rfl rfl ?_
              refine At.fieldAddr rfl fo45_1 rfl ?_
              refine At.yes rfl rfl rfl rfl ?_
              refine At.load rfl (Ld.ownPart ag31 (sz31.trans (congrArg some ((((((hp).eff hu1)).op hu2)).argOk).size.symm)) hb6 (((((hp).eff hu1)).op hu2)).argCs) rfl ?_
              refine At.yes rfl rfl rfl rfl ?_
              refine At.fieldAddr rfl fo45_2 rfl ?_
              refine At.yes rfl rfl rfl rfl ?_
              refine At.load rfl (Ld.ownPart ag31 (sz31.trans (congrArg some ((((((hp).eff hu1)).op hu2)).resOk).size.symm)) hb6 (((((hp).eff hu1)).op hu2)).resCs) rfl ?_
              refine At.yes rfl rfl rfl rfl ?_
              refine At.buildSlice (xs := [.tmp 48, .tmp 50]) rfl rfl el26 sz31 ze31 (by intro v hv; simp only [List.mem_cons, List.not_mem_nil, or_false] at hv; rcases hv with rfl | rfl <;> first | rfl | simp [Value.cells, ((((((hp).eff hu1)).op hu2)).argOk).size, ((((((hp).eff hu1)).op hu2)).resOk).size]) rfl (by decide) rfl (fun b7 w15 F7 => ?_)
              have n_b1_b7 : b1 ≠ b7 := Nat.ne_of_lt (F7.lt hb1)
              have n_b3_b7 : b3 ≠ b7 := Nat.ne_of_lt (F7.lt hb3)
              have n_b4_b7 : b4 ≠ b7 := Nat.ne_of_lt (F7.lt hb4)
              have n_b6_b7 : b6 ≠ b7 := Nat.ne_of_lt (F7.lt hb6)
              have gb7 := F7.ge hB
              replace hb1 := F7.old hb1
              replace hb3 := F7.old hb3
              replace hb4 := F7.old hb4
              replace hb6 := F7.old hb6
              replace hO1 := hO1.fresh F7
              replace hO2 := hO2.fresh F7
              have hb7 : w15.heap[b7]? = some (.cells (([u2.arg, u2.res].map Ty.cs).flatMap (·.toList)).toArray 31) := F7.new
              replace hB := F7.below' hB
              have hs2 : RowsAt w15 (.slice (some ⟨b7, 0, none⟩) 2 2) 6 ([u2.arg, u2.res].map Ty.cs) := RowsAt.own hb7 (by intro r hr; simp only [List.map_cons, List.map_nil, List.mem_cons, List.not_mem_nil, or_false] at hr; rcases hr with rfl | rfl; exact ((((((hp).eff hu1)).op hu2)).argOk).size; exact ((((((hp).eff hu1)).op hu2)).resOk).size) rfl (Nat.le_refl _)
              refine At.yes rfl rfl rfl rfl ?_
              refine At.call en40 rfl rfl (known_any p (.slice (some ⟨b7, 0, none⟩) 2 2) ([u2.arg, u2.res]) _ ((hp).keep hB) hz hs2 (by intro t ht; simp only [List.mem_cons, List.not_mem_nil, or_false] at ht; rcases ht with rfl | rfl; exact (((((hp).eff hu1)).op hu2)).argOk; exact (((((hp).eff hu1)).op hu2)).resOk) (by simp)) (fun e w16 hR => ?_)
              obtain ⟨rfl, hbl1⟩ := hR
              refine ⟨_, rfl, ?_⟩
              replace hb1 := Below.old hbl1 hb1
              replace hb3 := Below.old hbl1 hb3
              replace hb4 := Below.old hbl1 hb4
              replace hb6 := Below.old hbl1 hb6
              replace hb7 := Below.old hbl1 hb7
              replace hO1 := hO1.below hbl1
              replace hO2 := hO2.below hbl1
              replace hB := Below.andThen hB hbl1
              refine At.yes rfl rfl rfl rfl ?_
              refine At.not rfl rfl ?_
              refine At.pickF rfl rfl rfl ?_
              refine At.ops0 ?_
              refine At.thenN ?_
              refine At.cond (b := (!(([u2.arg, u2.res]).all (knownT p.dats)))) rfl (fun hc4 => ?_) (fun hc4 => ?_)
              · skip
                refine At.seq ?_
                refine At.region ?_
                refine At.assign rfl rfl ?_
                refine At.ops0 ?_
                refine At.thenN ?_
                refine At.retc ?_
                refine At.inR ?_
                refine At.thenR ?_
                refine At.thenR ?_
                refine At.inR ?_
                refine At.inR ?_
                refine At.thenR ?_
                refine At.thenR ?_
                refine At.inR ?_
                refine At.thenR ?_
                refine At.doneR (ResV.tmp rfl ResV.nil) ?_
                have hgood : (decide (u1.nm = (⟨#[]⟩ : ByteArray)) || memB u1.nm ([con_] ++ (p.effs.take k).map Eff.nm)) = false := by have e1 := hg1; have e2 := hc2; (try simp only [Bool.not_eq_true', Bool.not_eq_false', Bool.not_not, List.all_cons, List.all_nil, Bool.and_true] at e1 e2 ⊢); simp only [e1, e2, Bool.or_self]
                have hbad : ((decide (u2.nm = (⟨#[]⟩ : ByteArray)) || memB u2.nm (((p.effs.take k).flatMap fun e => e.ops.map Op.nm) ++ (u1.ops.take j).map Op.nm)) || !(knownT p.dats u2.arg && knownT p.dats u2.res)) = true := by have e0 := hg2; have e1 := hg3; have e2 := hc4; (try simp only [Bool.not_eq_true', Bool.not_eq_false', Bool.not_not, List.all_cons, List.all_nil, Bool.and_true] at e0 e1 e2 ⊢); simp only [e0, e1, e2, Bool.true_or, Bool.or_true, Bool.not_false, Bool.false_and, Bool.and_false]
                exact ⟨congrArg Ending.returned (congrArg Value.bool (Eq.symm (by rw [← hn, effsB_step hu1 hgood, ← hn2, opsB_bad hu2 hbad]; rfl))), hB⟩
              · skip
                refine At.skip ?_
                refine At.inN ?_
                refine At.thenN ?_
                refine At.region ?_
                refine At.addI rfl rfl rfl (by first | omega | (have := hz.effs; omega) | (have := hz.ops _ (List.mem_of_getElem? hu1); omega)) ?_
                refine At.move rfl rfl ?_
                refine At.ops0 ?_
                refine At.thenN ?_
                have hgood : ((decide (u2.nm = (⟨#[]⟩ : ByteArray)) || memB u2.nm (((p.effs.take k).flatMap fun e => e.ops.map Op.nm) ++ (u1.ops.take j).map Op.nm)) || !(knownT p.dats u2.arg && knownT p.dats u2.res)) = false := by have e1 := hg2; have e2 := hg3; have e3 := hc4; (try simp only [Bool.not_eq_true', Bool.not_eq_false', Bool.not_not, List.all_cons, List.all_nil, Bool.and_true] at e1 e2 e3 ⊢); simp only [e1, e2, e3, Bool.or_self, Bool.not_true, Bool.false_or]
                exact fun a ha => ⟨((j + 1), va2), ha.sub (Sub.cons rfl (Sub.cons rfl (Sub.cons rfl (Sub.cons rfl (Sub.cons rfl (Sub.cons rfl (Sub.cons rfl (Sub.cons rfl (Sub.cons rfl Sub.nil))))))))), ⟨hB, hb1, hb3, hb4, hO1, (take_snoc Op.nm _ hu2 ▸ hO2), (ghO2), (Apart.symm ap_hO2), (by omega), (by rw [take_snoc Op.nm _ hu2, ← hn2, opsB_step hu2 hgood])⟩, by first | omega | (dsimp only; omega)⟩
        · skip
          have hc3' := of_decide_eq_false hc3
          refine At.exit ?_
          refine At.thenE ?_
          refine At.thenE ?_
          refine At.inE ?_
          refine At.inN ?_
          refine At.thenN ?_
          refine At.region ?_
          refine At.addI rfl rfl rfl (by first | omega | (have := hz.effs; omega) | (have := hz.ops _ (List.mem_of_getElem? hu1); omega)) ?_
          refine At.move rfl rfl ?_
          refine At.ops0 ?_
          refine At.thenN ?_
          have hend : opsB p.dats ((p.effs.take k).flatMap fun e => e.ops.map Op.nm) u1.ops = true := by rw [← hn2, List.drop_eq_nil_of_le (by omega)]; rfl
          have hgood : (decide (u1.nm = (⟨#[]⟩ : ByteArray)) || memB u1.nm ([con_] ++ (p.effs.take k).map Eff.nm)) = false := by have e1 := hg1; have e2 := hc2; (try simp only [Bool.not_eq_true', Bool.not_eq_false', Bool.not_not, List.all_cons, List.all_nil, Bool.and_true] at e1 e2 ⊢); simp only [e1, e2, Bool.or_self]
          exact fun a ha => ⟨((k + 1), va1, vB'), ha.sub (Sub.cons rfl (Sub.cons rfl (Sub.cons rfl (Sub.cons rfl (Sub.cons rfl (Sub.cons rfl Sub.nil)))))), ⟨hB, hb1, hb3, hb4, (take_snoc Eff.nm _ hu1 ▸ hO1), (by have q := hrB'; rw [List.take_of_length_le (show u1.ops.length ≤ j from by omega)] at q; rw [flat_snoc (fun e : Eff => e.ops.map Op.nm) hu1]; exact q), (ghO1), (gB'), (ap2), (by omega), (by rw [take_snoc Eff.nm _ hu1, flat_snoc (fun e : Eff => e.ops.map Op.nm) hu1, ← hn, effsB_step hu1 hgood, hend]; rfl)⟩, by first | omega | (dsimp only; omega)⟩
  · skip
    have hc1' := of_decide_eq_false hc1
    refine At.exit ?_
    refine At.thenE ?_
    refine At.thenE ?_
    refine At.inE ?_
    refine At.thenN ?_
    refine At.seq ?_
    refine At.region ?_
    refine At.assign rfl rfl ?_
    refine At.ops0 ?_
    refine At.thenN ?_
    refine At.retc ?_
    refine At.doneR (ResV.tmp rfl ResV.nil) ?_
    exact ⟨congrArg Ending.returned (congrArg Value.bool (Eq.symm (by rw [← hn, List.drop_eq_nil_of_le (by omega)]; rfl))), hB⟩
theorem datas_any (p : Pr) (w : World) (hp : PrOk w p) (hz : PrSz p) :
    Calls Try.prog 27 ([.agg p.cs] : List Value).toArray w fun e w' => e = .returned (.bool (datsB p.dats [con_] [] p.dats)) ∧ Below w.heap.size w w' := by
  have hB := Below.refl w.heap.size w
  refine At.enter (N := 54) Try.func27 rfl rfl (by simp) [(0, .agg p.cs)] (by simp) ?_
  refine At.seq ?_
  refine At.region ?_
  refine At.box rfl rfl (fun b1 w1 F1 => ?_)
  have gb1 := F1.ge hB
  have hb1 : w1.heap[b1]? = some (.cells p.cs 75) := F1.new
  replace hB := F1.below' hB
  refine At.assign rfl rfl ?_
  refine At.ops0 ?_
  refine At.thenN ?_
  refine At.seq ?_
  refine At.region ?_
  refine At.buildSlice (xs := [.const (.string (⟨#[99, 111, 110, 115, 111, 108, 101]⟩ : ByteArray))]) rfl rfl el27 sz9 ze9 (by intro v hv; simp only [List.mem_cons, List.not_mem_nil, or_false] at hv; rcases hv with rfl <;> first | rfl | simp [Value.cells, Value.cells]) rfl (by decide) rfl (fun b2 w2 F2 => ?_)
  have n_b1_b2 : b1 ≠ b2 := Nat.ne_of_lt (F2.lt hb1)
  have gb2 := F2.ge hB
  replace hb1 := F2.old hb1
  have hb2 : w2.heap[b2]? = some (.cells #[.string (⟨#[99, 111, 110, 115, 111, 108, 101]⟩ : ByteArray)] 9) := F2.new
  replace hB := F2.below' hB
  have hs1 : StrsAt w2 (.slice (some ⟨b2, 0, none⟩) 1 1) [(⟨#[99, 111, 110, 115, 111, 108, 101]⟩ : ByteArray)] := StrsAt.own (ss := [(⟨#[99, 111, 110, 115, 111, 108, 101]⟩ : ByteArray)]) hb2 rfl (by decide)
  refine At.build (C := #[(.slice (some ⟨b2, 0, none⟩) 1 1)]) sd87 ze87 rfl (Bld.one fo87_0 ((hs1).ok).one (by first | decide | simp [Value.cells]) (Bld.nil _)) rfl ?_
  refine At.build (C := #[(.slice none 0 0)]) sd87 ze87 rfl (Bld.nil _) rfl ?_
  refine At.alloc ze87 rfl (fun b3 w3 F3 => ?_)
  have n_b1_b3 : b1 ≠ b3 := Nat.ne_of_lt (F3.lt hb1)
  have n_b2_b3 : b2 ≠ b3 := Nat.ne_of_lt (F3.lt hb2)
  have gb3 := F3.ge hB
  replace hb1 := F3.old hb1
  replace hb2 := F3.old hb2
  have hb3 : w3.heap[b3]? = some (.cells #[(.slice none 0 0)] 87) := F3.new
  replace hB := F3.below' hB
  refine At.alloc ze87 rfl (fun b4 w4 F4 => ?_)
  have n_b1_b4 : b1 ≠ b4 := Nat.ne_of_lt (F4.lt hb1)
  have n_b2_b4 : b2 ≠ b4 := Nat.ne_of_lt (F4.lt hb2)
  have n_b3_b4 : b3 ≠ b4 := Nat.ne_of_lt (F4.lt hb3)
  have gb4 := F4.ge hB
  replace hb1 := F4.old hb1
  replace hb2 := F4.old hb2
  replace hb3 := F4.old hb3
  have hb4 : w4.heap[b4]? = some (.cells #[(.slice none 0 0)] 87) := F4.new
  replace hB := F4.below' hB
  refine At.storeAll rfl rfl hb3 sz87 rfl (by simp [Value.oneCell', ((hs1).ok).one]) (fun w5 S1 => ?_)
  replace hb1 := S1.other hb1 n_b1_b3
  replace hb2 := S1.other hb2 n_b2_b3
  replace hb4 := S1.other hb4 n_b3_b4.symm
  replace hb3 : w5.heap[b3]? = some (.cells #[(.slice (some ⟨b2, 0, none⟩) 1 1)] 87) := S1.new
  replace hB := S1.below' hB gb3
  refine At.storeAll rfl rfl hb4 sz87 rfl (by simp [Value.oneCell', ((SlOk.nil)).one]) (fun w6 S2 => ?_)
  replace hb1 := S2.other hb1 n_b1_b4
  replace hb2 := S2.other hb2 n_b2_b4
  replace hb3 := S2.other hb3 n_b3_b4
  replace hb4 : w6.heap[b4]? = some (.cells #[(.slice none 0 0)] 87) := S2.new
  replace hB := S2.below' hB gb4
  refine At.ops0 ?_
  refine At.thenN ?_
  refine At.seq ?_
  refine At.seq ?_
  refine At.region ?_
  refine At.fieldAddr rfl fo75_0 rfl ?_
  refine At.fieldAddr rfl fo35_1 rfl ?_
  refine At.load rfl (Ld.ownCell ag23 hb1 (hp).c1) rfl ?_
  refine At.lenSl rfl ((hp).datsAt).okL el23 rfl ?_
  refine At.move rfl rfl ?_
  refine At.ops0 ?_
  refine At.thenN ?_
  refine At.block ?_
  have hrA : OwnS 9 w6 (.slice (some ⟨b2, 0, none⟩) 1 1) [con_] := OwnS.made (ss := [con_]) hb2 rfl (by decide)
  have gA : ∀ g, Value.ownBlock (.slice (some ⟨b2, 0, none⟩) 1 1) = some g → w.heap.size ≤ g := fun g h => by cases h; exact gb2
  have hrB : OwnS 9 w6 (.slice none 0 0) [] := OwnS.nil _ _
  have gB : ∀ g, Value.ownBlock (.slice none 0 0) = some g → w.heap.size ≤ g := fun g h => by cases h
  refine At.loop (Nat × Value × Value) (fun (k, vA, vB) => [(1, .pointer (some ⟨b1, 0, none⟩)), (3, .pointer (some ⟨b3, 0, none⟩)), (4, .pointer (some ⟨b4, 0, none⟩)), (14, p.dv), (15, .int .i64 (p.dats.length : Int)), (16, .int .i64 (k : Int))]) (fun (k, vA, vB) w7 => Below w.heap.size w w7 ∧ w7.heap[b1]? = some (.cells p.cs 75) ∧ w7.heap[b3]? = some (.cells #[vA] 87) ∧ w7.heap[b4]? = some (.cells #[vB] 87) ∧ OwnS 9 w7 vA ([con_] ++ (p.dats.take k).map Dat.nm) ∧ OwnS 9 w7 vB ((p.dats.take k).flatMap fun e => e.cons.map Cn.nm) ∧ (∀ g, vA.ownBlock = some g → w.heap.size ≤ g) ∧ (∀ g, vB.ownBlock = some g → w.heap.size ≤ g) ∧ (Apart vA vB) ∧ (k ≤ p.dats.length) ∧ (datsB p.dats ([con_] ++ (p.dats.take k).map Dat.nm) ((p.dats.take k).flatMap fun e => e.cons.map Cn.nm) (p.dats.drop k) = datsB p.dats [con_] [] p.dats)) (fun (k, vA, vB) => p.dats.length - k) (0, (.slice (some ⟨b2, 0, none⟩) 1 1), .slice none 0 0) (Sub.cons rfl (Sub.cons rfl (Sub.cons rfl (Sub.cons rfl (Sub.cons rfl (Sub.cons rfl Sub.nil)))))) ⟨hB, hb1, hb3, hb4, hrA, hrB, (gA), (gB), (Apart.nil _), (Nat.zero_le _), (rfl)⟩ (fun gh w7 hI => ?_)
  obtain ⟨k, vA, vB⟩ := gh
  clear hB hb1 hb2 hb3 hb4
  obtain ⟨hB, hb1, hb3, hb4, hrA, hrB, gA, gB, ap, hkb, hn⟩ := hI
  show At _ _ [(1, .pointer (some ⟨b1, 0, none⟩)), (3, .pointer (some ⟨b3, 0, none⟩)), (4, .pointer (some ⟨b4, 0, none⟩)), (14, p.dv), (15, .int .i64 (p.dats.length : Int)), (16, .int .i64 (k : Int))] _ _
  refine At.seq ?_
  refine At.region ?_
  refine At.lss rfl rfl rfl ?_
  refine At.ops0 ?_
  refine At.thenN ?_
  refine At.seq ?_
  refine At.cond (b := decide ((k : Int) < (p.dats.length : Int))) rfl (fun hc1 => ?_) (fun hc1 => ?_)
  · skip
    have hc1' := of_decide_eq_true hc1
    refine At.skip ?_
    refine At.thenN ?_
    refine At.seq ?_
    refine At.block ?_
    refine At.seq ?_
    refine At.region ?_
    obtain ⟨u1, hu1⟩ := some_of_lt (l := p.dats) (i := k) (by first | omega | (have := hz.dats; omega) | (have := hz.cons _ (List.mem_of_getElem? hu1); omega))
    refine At.indexAddr (i := k) rfl rfl ((hp).datsAt).okL (lt_of_some hu1) el23 sz52 rfl ?_
    refine At.load rfl (Ld.row ag52 (sz52.trans (congrArg some (((hp).dat hu1)).size.symm)) ((((hp).datsAt).row hu1).keep hB)) rfl ?_
    refine At.alloc ze52 rfl (fun b5 w8 F5 => ?_)
    have n_b1_b5 : b1 ≠ b5 := Nat.ne_of_lt (F5.lt hb1)
    have n_b3_b5 : b3 ≠ b5 := Nat.ne_of_lt (F5.lt hb3)
    have n_b4_b5 : b4 ≠ b5 := Nat.ne_of_lt (F5.lt hb4)
    have gb5 := F5.ge hB
    replace hb1 := F5.old hb1
    replace hb3 := F5.old hb3
    replace hb4 := F5.old hb4
    replace hrA := hrA.fresh F5
    replace hrB := hrB.fresh F5
    have hb5 : w8.heap[b5]? = some (.cells #[.string (⟨#[]⟩ : ByteArray), (.slice none 0 0)] 52) := F5.new
    replace hB := F5.below' hB
    refine At.storeAll rfl rfl hb5 (sz52.trans (congrArg some (((hp).dat hu1)).size.symm)) (((hp).dat hu1)).size.symm (((hp).dat hu1)).one (fun w9 S3 => ?_)
    replace hb1 := S3.other hb1 n_b1_b5
    replace hb3 := S3.other hb3 n_b3_b5
    replace hb4 := S3.other hb4 n_b4_b5
    replace hrA := hrA.set S3 (hrA.neT hb5 rfl)
    replace hrB := hrB.set S3 (hrB.neT hb5 rfl)
    replace hb5 : w9.heap[b5]? = some (.cells u1.cs 52) := S3.new
    replace hB := S3.below' hB gb5
    refine At.ops0 ?_
    refine At.thenN ?_
    refine At.seq ?_
    refine At.seq ?_
    refine At.region ?_
    refine At.fieldAddr rfl fo52_0 rfl ?_
    refine At.load rfl (Ld.ownCell ag9 hb5 (((hp).dat hu1)).c0) rfl ?_
    refine At.eqS rfl rfl rfl ?_
    refine At.move rfl rfl ?_
    refine At.cases (decide (u1.nm = (⟨#[]⟩ : ByteArray))) (fun hg1 => ?_) (fun hg1 => ?_)
    · skip
      refine At.set (d := 23) (u := .bool true) rfl (congrArg Value.bool hg1) ?_
      have hg1' := of_decide_eq_true hg1
      refine At.no rfl rfl rfl rfl rfl rfl rfl ?_
      refine At.no rfl rfl rfl rfl rfl rfl rfl ?_
      refine At.no rfl rfl rfl rfl rfl rfl rfl ?_
      refine At.no rfl rfl rfl rfl rfl rfl rfl ?_
      refine At.pickT rfl rfl rfl ?_
      refine At.ops0 ?_
      refine At.thenN ?_
      refine At.condT rfl ?_
      refine At.seq ?_
      refine At.region ?_
      refine At.assign rfl rfl ?_
      refine At.ops0 ?_
      refine At.thenN ?_
      refine At.retc ?_
      refine At.thenR ?_
      refine At.inR ?_
      refine At.thenR ?_
      refine At.thenR ?_
      refine At.inR ?_
      refine At.thenR ?_
      refine At.doneR (ResV.tmp rfl ResV.nil) ?_
      have hbad : (decide (u1.nm = (⟨#[]⟩ : ByteArray)) || memB u1.nm ([con_] ++ (p.dats.take k).map Dat.nm)) = true := by have e0 := hg1; (try simp only [Bool.not_eq_true', Bool.not_eq_false', Bool.not_not, List.all_cons, List.all_nil, Bool.and_true] at e0 ⊢); simp only [e0, Bool.true_or, Bool.or_true]
      exact ⟨congrArg Ending.returned (congrArg Value.bool (Eq.symm (by rw [← hn, datsB_bad hu1 hbad]))), hB⟩
    · skip
      refine At.set (d := 23) (u := .bool false) rfl (congrArg Value.bool hg1) ?_
      have hg1' := of_decide_eq_false hg1
      refine At.yes rfl rfl rfl rfl ?_
      refine At.fieldAddr rfl fo52_0 rfl ?_
      refine At.yes rfl rfl rfl rfl ?_
      refine At.load rfl (Ld.ownCell ag9 hb5 (((hp).dat hu1)).c0) rfl ?_
      refine At.yes rfl rfl rfl rfl ?_
      refine At.call en39 rfl rfl (fresh_any b3 vA ([con_] ++ (p.dats.take k).map Dat.nm) u1.nm _ hb3 hrA (by have := hz.dats; simp only [List.length_append, List.length_cons, List.length_nil, List.length_map, List.length_take]; omega)) (fun e w10 hR' => ?_)
      obtain ⟨va1, rfl, hb3', hO1, hF1, hM1⟩ := hR'
      refine ⟨_, rfl, ?_⟩
      have ap_hO1 := Apart.moved (ap) hM1 hrB
      replace hrB := OwnS.apart hrB hF1 hb3 rfl (Apart.symm ap)
      replace hb1 := hF1.old _ _ (fun e => e.elim n_b1_b3 (hrA.neT hb1 rfl)) hb1
      replace hb4 := hF1.old _ _ (fun e => e.elim (Ne.symm n_b3_b4) (hrA.neT hb4 rfl)) hb4
      replace hb5 := hF1.old _ _ (fun e => e.elim (Ne.symm n_b3_b5) (hrA.neT hb5 rfl)) hb5
      replace hb3 := hb3'
      have ghO1 := hM1.ge hB.size gA
      replace hB := hF1.below hB hB.size (fun k hk => hk.elim (fun e => e ▸ gb3) (fun e => gA _ e.symm))
      refine At.yes rfl rfl rfl rfl ?_
      refine At.not rfl rfl ?_
      refine At.pickF rfl rfl rfl ?_
      refine At.ops0 ?_
      refine At.thenN ?_
      refine At.cond (b := (!(!memB u1.nm ([con_] ++ (p.dats.take k).map Dat.nm)))) rfl (fun hc2 => ?_) (fun hc2 => ?_)
      · skip
        refine At.seq ?_
        refine At.region ?_
        refine At.assign rfl rfl ?_
        refine At.ops0 ?_
        refine At.thenN ?_
        refine At.retc ?_
        refine At.thenR ?_
        refine At.inR ?_
        refine At.thenR ?_
        refine At.thenR ?_
        refine At.inR ?_
        refine At.thenR ?_
        refine At.doneR (ResV.tmp rfl ResV.nil) ?_
        have hbad : (decide (u1.nm = (⟨#[]⟩ : ByteArray)) || memB u1.nm ([con_] ++ (p.dats.take k).map Dat.nm)) = true := by have e0 := hg1; have e1 := hc2; (try simp only [Bool.not_eq_true', Bool.not_eq_false', Bool.not_not, List.all_cons, List.all_nil, Bool.and_true] at e0 e1 ⊢); simp only [e0, e1, Bool.true_or, Bool.or_true]
        exact ⟨congrArg Ending.returned (congrArg Value.bool (Eq.symm (by rw [← hn, datsB_bad hu1 hbad]))), hB⟩
      · skip
        refine At.skip ?_
        refine At.thenN ?_
        refine At.seq ?_
        refine At.region ?_
        refine At.fieldAddr rfl fo52_1 rfl ?_
        refine At.load rfl (Ld.ownCell ag50 hb5 (((hp).dat hu1)).c1) rfl ?_
        refine At.lenSl rfl ((((hp).dat hu1)).consAt).okL el50 rfl ?_
        refine At.move rfl rfl ?_
        refine At.ops0 ?_
        refine At.thenN ?_
        refine At.block ?_
        have hfl := flat_le1 (fun e : Dat => e.cons.map Cn.nm) hu1
        have hsum := hz.consAll
        simp only [List.length_map] at hfl
        refine At.loop (Nat × Value) (fun (j, vB') => [(1, .pointer (some ⟨b1, 0, none⟩)), (3, .pointer (some ⟨b3, 0, none⟩)), (4, .pointer (some ⟨b4, 0, none⟩)), (14, p.dv), (15, .int .i64 (p.dats.length : Int)), (16, .int .i64 (k : Int)), (30, u1.cv), (31, .int .i64 (u1.cons.length : Int)), (32, .int .i64 (j : Int))]) (fun (j, vB') w11 => Below w.heap.size w w11 ∧ w11.heap[b1]? = some (.cells p.cs 75) ∧ w11.heap[b3]? = some (.cells #[va1] 87) ∧ w11.heap[b4]? = some (.cells #[vB'] 87) ∧ OwnS 9 w11 va1 (([con_] ++ (p.dats.take k).map Dat.nm) ++ [u1.nm]) ∧ OwnS 9 w11 vB' (((p.dats.take k).flatMap fun e => e.cons.map Cn.nm) ++ (u1.cons.take j).map Cn.nm) ∧ (∀ g, vB'.ownBlock = some g → w.heap.size ≤ g) ∧ (Apart va1 vB') ∧ (j ≤ u1.cons.length) ∧ (consB p.dats (((p.dats.take k).flatMap fun e => e.cons.map Cn.nm) ++ (u1.cons.take j).map Cn.nm) (u1.cons.drop j) = consB p.dats ((p.dats.take k).flatMap fun e => e.cons.map Cn.nm) u1.cons)) (fun (j, vB') => u1.cons.length - j) (0, vB) (Sub.cons rfl (Sub.cons rfl (Sub.cons rfl (Sub.cons rfl (Sub.cons rfl (Sub.cons rfl (Sub.cons rfl (Sub.cons rfl (Sub.cons rfl Sub.nil))))))))) ⟨hB, hb1, hb3, hb4, hO1, (by rw [List.take_zero, List.map_nil, List.append_nil]; exact hrB), (gB), (ap_hO1), (Nat.zero_le _), (by rw [List.take_zero, List.map_nil, List.append_nil]; rfl)⟩ (fun gh w11 hI => ?_)
        obtain ⟨j, vB'⟩ := gh
        clear hB hb1 hb3 hb4 hb5 hrB hO1
        obtain ⟨hB, hb1, hb3, hb4, hO1, hrB', gB', ap2, hjb, hn2⟩ := hI
        show At _ _ [(1, .pointer (some ⟨b1, 0, none⟩)), (3, .pointer (some ⟨b3, 0, none⟩)), (4, .pointer (some ⟨b4, 0, none⟩)), (14, p.dv), (15, .int .i64 (p.dats.length : Int)), (16, .int .i64 (k : Int)), (30, u1.cv), (31, .int .i64 (u1.cons.length : Int)), (32, .int .i64 (j : Int))] _ _
        refine At.seq ?_
        refine At.region ?_
        refine At.lss rfl rfl rfl ?_
        refine At.ops0 ?_
        refine At.thenN ?_
        refine At.seq ?_
        refine At.cond (b := decide ((j : Int) < (u1.cons.length : Int))) rfl (fun hc3 => ?_) (fun hc3 => ?_)
        · skip
          have hc3' := of_decide_eq_true hc3
          refine At.skip ?_
          refine At.thenN ?_
          refine At.seq ?_
          refine At.block ?_
          refine At.seq ?_
          refine At.region ?_
          obtain ⟨u2, hu2⟩ := some_of_lt (l := u1.cons) (i := j) (by first | omega | (have := hz.dats; omega) | (have := hz.cons _ (List.mem_of_getElem? hu1); omega))
          refine At.indexAddr (i := j) rfl rfl ((((hp).dat hu1)).consAt).okL (lt_of_some hu2) el50 sz54 rfl ?_
          refine At.load rfl (Ld.row ag54 (sz54.trans (congrArg some (((((hp).dat hu1)).con hu2)).size.symm)) ((((((hp).dat hu1)).consAt).row hu2).keep hB)) rfl ?_
          refine At.alloc ze54 rfl (fun b6 w12 F6 => ?_)
          have n_b1_b6 : b1 ≠ b6 := Nat.ne_of_lt (F6.lt hb1)
          have n_b3_b6 : b3 ≠ b6 := Nat.ne_of_lt (F6.lt hb3)
          have n_b4_b6 : b4 ≠ b6 := Nat.ne_of_lt (F6.lt hb4)
          have gb6 := F6.ge hB
          replace hb1 := F6.old hb1
          replace hb3 := F6.old hb3
          replace hb4 := F6.old hb4
          replace hO1 := hO1.fresh F6
          replace hrB' := hrB'.fresh F6
          have hb6 : w12.heap[b6]? = some (.cells #[.string (⟨#[]⟩ : ByteArray), (.slice none 0 0)] 54) := F6.new
          replace hB := F6.below' hB
          refine At.storeAll rfl rfl hb6 (sz54.trans (congrArg some (((((hp).dat hu1)).con hu2)).size.symm)) (((((hp).dat hu1)).con hu2)).size.symm (((((hp).dat hu1)).con hu2)).one (fun w13 S4 => ?_)
          replace hb1 := S4.other hb1 n_b1_b6
          replace hb3 := S4.other hb3 n_b3_b6
          replace hb4 := S4.other hb4 n_b4_b6
          replace hO1 := hO1.set S4 (hO1.neT hb6 rfl)
          replace hrB' := hrB'.set S4 (hrB'.neT hb6 rfl)
          replace hb6 : w13.heap[b6]? = some (.cells u2.cs 54) := S4.new
          replace hB := S4.below' hB gb6
          refine At.ops0 ?_
          refine At.thenN ?_
          refine At.seq ?_
          refine At.region ?_
          refine At.fieldAddr rfl fo54_0 rfl ?_
          refine At.load rfl (Ld.ownCell ag9 hb6 (((((hp).dat hu1)).con hu2)).c0) rfl ?_
          refine At.eqS rfl rfl rfl ?_
          refine At.move rfl rfl ?_
          refine At.cases (decide (u2.nm = (⟨#[]⟩ : ByteArray))) (fun hg2 => ?_) (fun hg2 => ?_)
          · skip
            refine At.set (d := 39) (u := .bool true) rfl (congrArg Value.bool hg2) ?_
            have hg2' := of_decide_eq_true hg2
            refine At.no rfl rfl rfl rfl rfl rfl rfl ?_
            refine At.no rfl rfl rfl rfl rfl rfl rfl ?_
            refine At.no rfl rfl rfl rfl rfl rfl rfl ?_
            refine At.no rfl rfl rfl rfl rfl rfl rfl ?_
            refine At.pickT rfl rfl rfl ?_
            refine At.move rfl rfl ?_
            refine At.no rfl rfl rfl rfl rfl rfl rfl ?_
            refine At.no rfl rfl rfl rfl rfl rfl rfl ?_
            refine At.no rfl rfl rfl rfl rfl rfl rfl ?_
            refine At.no rfl rfl rfl rfl rfl rfl rfl ?_
            refine At.no rfl rfl rfl rfl rfl rfl rfl ?_
            refine At.pickT rfl rfl rfl ?_
            refine At.ops0 ?_
            refine At.thenN ?_
            refine At.condT rfl ?_
            refine At.seq ?_
            refine At.region ?_
            refine At.assign rfl rfl ?_
            refine At.ops0 ?_
            refine At.thenN ?_
            refine At.retc ?_
            refine At.inR ?_
            refine At.thenR ?_
            refine At.thenR ?_
            refine At.inR ?_
            refine At.inR ?_
            refine At.thenR ?_
            refine At.thenR ?_
            refine At.inR ?_
            refine At.thenR ?_
            refine At.doneR (ResV.tmp rfl ResV.nil) ?_
            have hgood : (decide (u1.nm = (⟨#[]⟩ : ByteArray)) || memB u1.nm ([con_] ++ (p.dats.take k).map Dat.nm)) = false := by have e1 := hg1; have e2 := hc2; (try simp only [Bool.not_eq_true', Bool.not_eq_false', Bool.not_not, List.all_cons, List.all_nil, Bool.and_true] at e1 e2 ⊢); simp only [e1, e2, Bool.or_self]
            have hbad : ((decide (u2.nm = (⟨#[]⟩ : ByteArray)) || memB u2.nm (((p.dats.take k).flatMap fun e => e.cons.map Cn.nm) ++ (u1.cons.take j).map Cn.nm)) || !(u2.fields.all (knownT p.dats))) = true := by have e0 := hg2; (try simp only [Bool.not_eq_true', Bool.not_eq_false', Bool.not_not, List.all_cons, List.all_nil, Bool.and_true] at e0 ⊢); simp only [e0, Bool.true_or, Bool.or_true, Bool.not_false, Bool.false_and, Bool.and_false]
            exact ⟨congrArg Ending.returned (congrArg Value.bool (Eq.symm (by rw [← hn, datsB_step hu1 hgood, ← hn2, consB_bad hu2 hbad]; rfl))), hB⟩
          · skip
            refine At.set (d := 39) (u := .bool false) rfl (congrArg Value.bool hg2) ?_
            have hg2' := of_decide_eq_false hg2
            refine At.yes rfl rfl rfl rfl ?_
            refine At.fieldAddr rfl fo54_0 rfl ?_
            refine At.yes rfl rfl rfl rfl ?_
            refine At.load rfl (Ld.ownCell ag9 hb6 (((((hp).dat hu1)).con hu2)).c0) rfl ?_
            refine At.yes rfl rfl rfl rfl ?_
            refine At.call en39 rfl rfl (fresh_any b4 vB' (((p.dats.take k).flatMap fun e => e.cons.map Cn.nm) ++ (u1.cons.take j).map Cn.nm) u2.nm _ hb4 hrB' (by have := List.length_take_le j u1.cons; simp only [List.length_append, List.length_map, List.length_take]; omega)) (fun e w14 hR' => ?_)
            obtain ⟨va2, rfl, hb4', hO2, hF2, hM2⟩ := hR'
            refine ⟨_, rfl, ?_⟩
            have ap_hO2 := Apart.moved (Apart.symm ap2) hM2 hO1
            replace hO1 := OwnS.apart hO1 hF2 hb4 rfl (ap2)
            replace hb1 := hF2.old _ _ (fun e => e.elim n_b1_b4 (hrB'.neT hb1 rfl)) hb1
            replace hb3 := hF2.old _ _ (fun e => e.elim n_b3_b4 (hrB'.neT hb3 rfl)) hb3
            replace hb6 := hF2.old _ _ (fun e => e.elim (Ne.symm n_b4_b6) (hrB'.neT hb6 rfl)) hb6
            replace hb4 := hb4'
            have ghO2 := hM2.ge hB.size gB'
            replace hB := hF2.below hB hB.size (fun k hk => hk.elim (fun e => e ▸ gb4) (fun e => gB' _ e.symm))
            refine At.yes rfl rfl rfl rfl ?_
            refine At.not rfl rfl ?_
            refine At.pickF rfl rfl rfl ?_
            refine At.move rfl rfl ?_
            refine At.cases ((!(!memB u2.nm (((p.dats.take k).flatMap fun e => e.cons.map Cn.nm) ++ (u1.cons.take j).map Cn.nm)))) (fun hg3 => ?_) (fun hg3 => ?_)
            · skip
              refine At.set (d := 45) (u := .bool true) rfl (congrArg Value.bool hg3) ?_
              refine At.no rfl rfl rfl rfl rfl rfl rfl ?_
              refine At.no rfl rfl rfl rfl rfl rfl rfl ?_
              refine At.no rfl rfl rfl rfl rfl rfl rfl ?_
              refine At.no rfl rfl rfl rfl rfl rfl rfl ?_
              refine At.no rfl rfl rfl rfl rfl rfl rfl ?_
              refine At.pickT rfl rfl rfl ?_
              refine At.ops0 ?_
              refine At.thenN ?_
              refine At.condT rfl ?_
              refine At.seq ?_
              refine At.region ?_
              refine At.assign rfl rfl ?_
              refine At.ops0 ?_
              refine At.thenN ?_
              refine At.retc ?_
              refine At.inR ?_
              refine At.thenR ?_
              refine At.thenR ?_
              refine At.inR ?_
              refine At.inR ?_
              refine At.thenR ?_
              refine At.thenR ?_
              refine At.inR ?_
              refine At.thenR ?_
              refine At.doneR (ResV.tmp rfl ResV.nil) ?_
              have hgood : (decide (u1.nm = (⟨#[]⟩ : ByteArray)) || memB u1.nm ([con_] ++ (p.dats.take k).map Dat.nm)) = false := by have e1 := hg1; have e2 := hc2; (try simp only [Bool.not_eq_true', Bool.not_eq_false', Bool.not_not, List.all_cons, List.all_nil, Bool.and_true] at e1 e2 ⊢); simp only [e1, e2, Bool.or_self]
              have hbad : ((decide (u2.nm = (⟨#[]⟩ : ByteArray)) || memB u2.nm (((p.dats.take k).flatMap fun e => e.cons.map Cn.nm) ++ (u1.cons.take j).map Cn.nm)) || !(u2.fields.all (knownT p.dats))) = true := by have e0 := hg2; have e1 := hg3; (try simp only [Bool.not_eq_true', Bool.not_eq_false', Bool.not_not, List.all_cons, List.all_nil, Bool.and_true] at e0 e1 ⊢); simp only [e0, e1, Bool.true_or, Bool.or_true, Bool.not_false, Bool.false_and, Bool.and_false]
              exact ⟨congrArg Ending.returned (congrArg Value.bool (Eq.symm (by rw [← hn, datsB_step hu1 hgood, ← hn2, consB_bad hu2 hbad]; rfl))), hB⟩
            · skip
              refine At.set (d := 45) (u := .bool false) rfl (congrArg Value.bool hg3) ?_
              refine At.yes rfl rfl rfl rfl ?_
              refine At.load rfl (Ld.own ag75 (sz75.trans (congrArg some (hp).size.symm)) hb1) rfl ?_
              refine At.yes rfl rfl rfl rfl ?_
              refine At.fieldAddr rfl fo54_1 rfl ?_
              refine At.yes rfl rfl rfl rfl ?_
              refine At.load rfl (Ld.ownCell ag26 hb6 (((((hp).dat hu1)).con hu2)).c1) rfl ?_
              refine At.yes rfl rfl rfl rfl ?_
              refine At.call en40 rfl rfl (known_any p u2.fv u2.fields _ ((hp).keep hB) hz (((((((hp).dat hu1)).con hu2)).fieldsAt).keep hB) (((((hp).dat hu1)).con hu2)).fieldOk (Nat.le_trans (hz.fields _ (List.mem_of_getElem? hu1) _ (List.mem_of_getElem? hu2)) (by decide))) (fun e w15 hR => ?_)
              obtain ⟨rfl, hbl1⟩ := hR
              refine ⟨_, rfl, ?_⟩
              replace hb1 := Below.old hbl1 hb1
              replace hb3 := Below.old hbl1 hb3
              replace hb4 := Below.old hbl1 hb4
              replace hb6 := Below.old hbl1 hb6
              replace hO1 := hO1.below hbl1
              replace hO2 := hO2.below hbl1
              replace hB := Below.andThen hB hbl1
              refine At.yes rfl rfl rfl rfl ?_
              refine At.not rfl rfl ?_
              refine At.pickF rfl rfl rfl ?_
              refine At.ops0 ?_
              refine At.thenN ?_
              refine At.cond (b := (!(u2.fields.all (knownT p.dats)))) rfl (fun hc4 => ?_) (fun hc4 => ?_)
              · skip
                refine At.seq ?_
                refine At.region ?_
                refine At.assign rfl rfl ?_
                refine At.ops0 ?_
                refine At.thenN ?_
                refine At.retc ?_
                refine At.inR ?_
                refine At.thenR ?_
                refine At.thenR ?_
                refine At.inR ?_
                refine At.inR ?_
                refine At.thenR ?_
                refine At.thenR ?_
                refine At.inR ?_
                refine At.thenR ?_
                refine At.doneR (ResV.tmp rfl ResV.nil) ?_
                have hgood : (decide (u1.nm = (⟨#[]⟩ : ByteArray)) || memB u1.nm ([con_] ++ (p.dats.take k).map Dat.nm)) = false := by have e1 := hg1; have e2 := hc2; (try simp only [Bool.not_eq_true', Bool.not_eq_false', Bool.not_not, List.all_cons, List.all_nil, Bool.and_true] at e1 e2 ⊢); simp only [e1, e2, Bool.or_self]
                have hbad : ((decide (u2.nm = (⟨#[]⟩ : ByteArray)) || memB u2.nm (((p.dats.take k).flatMap fun e => e.cons.map Cn.nm) ++ (u1.cons.take j).map Cn.nm)) || !(u2.fields.all (knownT p.dats))) = true := by have e0 := hg2; have e1 := hg3; have e2 := hc4; (try simp only [Bool.not_eq_true', Bool.not_eq_false', Bool.not_not, List.all_cons, List.all_nil, Bool.and_true] at e0 e1 e2 ⊢); simp only [e0, e1, e2, Bool.true_or, Bool.or_true, Bool.not_false, Bool.false_and, Bool.and_false]
                exact ⟨congrArg Ending.returned (congrArg Value.bool (Eq.symm (by rw [← hn, datsB_step hu1 hgood, ← hn2, consB_bad hu2 hbad]; rfl))), hB⟩
              · skip
                refine At.skip ?_
                refine At.inN ?_
                refine At.thenN ?_
                refine At.region ?_
                refine At.addI rfl rfl rfl (by first | omega | (have := hz.dats; omega) | (have := hz.cons _ (List.mem_of_getElem? hu1); omega)) ?_
                refine At.move rfl rfl ?_
                refine At.ops0 ?_
                refine At.thenN ?_
                have hgood : ((decide (u2.nm = (⟨#[]⟩ : ByteArray)) || memB u2.nm (((p.dats.take k).flatMap fun e => e.cons.map Cn.nm) ++ (u1.cons.take j).map Cn.nm)) || !(u2.fields.all (knownT p.dats))) = false := by have e1 := hg2; have e2 := hg3; have e3 := hc4; (try simp only [Bool.not_eq_true', Bool.not_eq_false', Bool.not_not, List.all_cons, List.all_nil, Bool.and_true] at e1 e2 e3 ⊢); simp only [e1, e2, e3, Bool.or_self, Bool.not_true, Bool.false_or]
                exact fun a ha => ⟨((j + 1), va2), ha.sub (Sub.cons rfl (Sub.cons rfl (Sub.cons rfl (Sub.cons rfl (Sub.cons rfl (Sub.cons rfl (Sub.cons rfl (Sub.cons rfl (Sub.cons rfl Sub.nil))))))))), ⟨hB, hb1, hb3, hb4, hO1, (take_snoc Cn.nm _ hu2 ▸ hO2), (ghO2), (Apart.symm ap_hO2), (by omega), (by rw [take_snoc Cn.nm _ hu2, ← hn2, consB_step hu2 hgood])⟩, by first | omega | (dsimp only; omega)⟩
        · skip
          have hc3' := of_decide_eq_false hc3
          refine At.exit ?_
          refine At.thenE ?_
          refine At.thenE ?_
          refine At.inE ?_
          refine At.inN ?_
          refine At.thenN ?_
          refine At.region ?_
          refine At.addI rfl rfl rfl (by first | omega | (have := hz.dats; omega) | (have := hz.cons _ (List.mem_of_getElem? hu1); omega)) ?_
          refine At.move rfl rfl ?_
          refine At.ops0 ?_
          refine At.thenN ?_
          have hend : consB p.dats ((p.dats.take k).flatMap fun e => e.cons.map Cn.nm) u1.cons = true := by rw [← hn2, List.drop_eq_nil_of_le (by omega)]; rfl
          have hgood : (decide (u1.nm = (⟨#[]⟩ : ByteArray)) || memB u1.nm ([con_] ++ (p.dats.take k).map Dat.nm)) = false := by have e1 := hg1; have e2 := hc2; (try simp only [Bool.not_eq_true', Bool.not_eq_false', Bool.not_not, List.all_cons, List.all_nil, Bool.and_true] at e1 e2 ⊢); simp only [e1, e2, Bool.or_self]
          exact fun a ha => ⟨((k + 1), va1, vB'), ha.sub (Sub.cons rfl (Sub.cons rfl (Sub.cons rfl (Sub.cons rfl (Sub.cons rfl (Sub.cons rfl Sub.nil)))))), ⟨hB, hb1, hb3, hb4, (take_snoc Dat.nm _ hu1 ▸ hO1), (by have q := hrB'; rw [List.take_of_length_le (show u1.cons.length ≤ j from by omega)] at q; rw [flat_snoc (fun e : Dat => e.cons.map Cn.nm) hu1]; exact q), (ghO1), (gB'), (ap2), (by omega), (by rw [take_snoc Dat.nm _ hu1, flat_snoc (fun e : Dat => e.cons.map Cn.nm) hu1, ← hn, datsB_step hu1 hgood, hend]; rfl)⟩, by first | omega | (dsimp only; omega)⟩
  · skip
    have hc1' := of_decide_eq_false hc1
    refine At.exit ?_
    refine At.thenE ?_
    refine At.thenE ?_
    refine At.inE ?_
    refine At.thenN ?_
    refine At.seq ?_
    refine At.region ?_
    refine At.assign rfl rfl ?_
    refine At.ops0 ?_
    refine At.thenN ?_
    refine At.retc ?_
    refine At.doneR (ResV.tmp rfl ResV.nil) ?_
    exact ⟨congrArg Ending.returned (congrArg Value.bool (Eq.symm (by rw [← hn, List.drop_eq_nil_of_le (by omega)]; rfl))), hB⟩
end Go.Proofs.Ytkclfcdppnlkbaa
