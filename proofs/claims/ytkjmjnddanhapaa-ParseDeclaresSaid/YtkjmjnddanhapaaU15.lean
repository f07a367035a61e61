/-
 The walk of ParseDeclares. Written by a program of ours.
-/
import Derived.Test.YtkjmjnddanhapaaN17
import Derived.Test.YtkjmjnddanhapaaU12
set_option linter.unusedVariables false
set_option linter.unusedSimpArgs false
namespace Go.Proofs.Ytkjmjnddanhapaa
open Go.RowKit
theorem ag4 : aggB Try.prog 4 = some false := by kernel_rfl
theorem el63 : elemB Try.prog 63 = some 4 := by kernel_rfl
theorem en12 : entB Try.prog 12 = true := by kernel_rfl
theorem sz4 : sizeB Try.prog 4 = some 1 := by kernel_rfl
set_option maxHeartbeats 4000000 in
theorem declares_any (m : Int) (v1 : Value) (l1 : List Bool) (w : World) (hv1 : BoolsAt w v1 l1) (hm : w.cell? ⟨0, 0, none⟩ = some (.int .i64 m)) :
  Calls Try.prog 10 ([v1] : List Value).toArray w fun e w' => e = .returned (.bool true) ∧ Below w.heap.size w w' := by
 have hB := Below.refl w.heap.size w
 refine At.enter (N := 214) Try.func10 rfl rfl (by simp) [(0, v1)] (by simp) ?_
 refine At.seq ?_
 refine At.region ?_
 refine At.assign rfl rfl ?_
 refine At.ops0 ?_
 refine At.thenN ?_
 refine At.seq ?_
 refine At.region ?_
 refine At.call en12 rfl rfl (shown_any m _ (cell_keep hm hB)) (fun e w1 hR => ?_)
 obtain ⟨rfl, hbl1⟩ := hR
 refine ⟨_, rfl, ?_⟩
 replace hB := Below.andThen hB hbl1
 refine At.assign rfl rfl ?_
 refine At.ops0 ?_
 refine At.thenN ?_
 refine At.seq ?_
 refine At.region ?_
 refine At.assign rfl rfl ?_
 refine At.ops0 ?_
 refine At.thenN ?_
 refine At.seq ?_
 refine At.region ?_
 refine At.assign rfl rfl ?_
 refine At.ops0 ?_
 refine At.thenN ?_
 refine At.seq ?_
 refine At.region ?_
 refine At.assign rfl rfl ?_
 refine At.ops0 ?_
 refine At.thenN ?_
 refine At.seq ?_
 refine At.seq ?_
 refine At.region ?_
 refine At.assign rfl rfl ?_
 refine At.ops0 ?_
 refine At.thenN ?_
 refine At.block ?_
 refine At.loop (Nat × Value × Value) (fun (i, ve, vd) => [(0, v1), (3, .bool true), (4, .string (bs (decS l1 i))), (5, ve), (6, vd), (7, .int .i64 (i : Int))]) (fun (i, ve, vd) w2 => Below w.heap.size w w2 ∧ OwnS 9 w2 ve ((eI true l1 i).map dnm) ∧ OwnS 9 w2 vd ((eI false l1 i).map dnm) ∧ (i ≤ l1.length) ∧ (i ≤ 20) ∧ (∀ g, Value.ownBlock ve = some g → w.heap.size ≤ g) ∧ (∀ g, Value.ownBlock vd = some g → w.heap.size ≤ g) ∧ (Apart ve vd)) (fun (i, ve, vd) => 20 - i) (0, .slice none 0 0, .slice none 0 0) (Sub.cons rfl (Sub.cons rfl (Sub.cons rfl (Sub.cons rfl (Sub.cons rfl (Sub.cons rfl Sub.nil)))))) ⟨hB, OwnS.nil _ _, OwnS.nil _ _, (Nat.zero_le _), (Nat.zero_le _), (fun g h => by cases h), (fun g h => by cases h), (Apart.nil _)⟩ (fun gh w2 hI => ?_)
 obtain ⟨i, ve, vd⟩ := gh
 clear hB
 obtain ⟨hB, hOe, hOd, hi1, hi2, gOe, gOd, hap⟩ := hI
 show At _ _ [(0, v1), (3, .bool true), (4, .string (bs (decS l1 i))), (5, ve), (6, vd), (7, .int .i64 (i : Int))] _ _
 have hel1 := eI_len true l1 i; have hel2 := eI_len false l1 i
 refine At.seq ?_
 refine At.seq ?_
 refine At.region ?_
 refine At.join [(0, v1), (3, .bool true), (4, .string (bs (decS l1 i))), (5, ve), (6, vd), (7, .int .i64 (i : Int)), (24, .bool (decide ((i : Int) < (l1.length : Int)) && decide ((i : Int) < 20)))] (fun w' => w2 = w') ?_ (fun w3 hS => ?_)
 ·skip
  refine At.move rfl rfl ?_
  refine At.move rfl rfl ?_
  refine At.lenSl rfl hv1.ok el63 rfl ?_
  refine At.lss rfl rfl rfl ?_
  refine At.move rfl rfl ?_
  refine At.cases (decide ((i : Int) < (l1.length : Int))) (fun hg1 => ?_) (fun hg1 => ?_)
  ·skip
   refine At.set (d := 21) (u := .bool true) rfl (congrArg Value.bool hg1) ?_
   have hg1' := of_decide_eq_true hg1
   refine At.yes rfl rfl rfl rfl ?_
   refine At.move rfl rfl ?_
   refine At.yes rfl rfl rfl rfl ?_
   refine At.lss rfl rfl rfl ?_
   refine At.pickT rfl rfl rfl ?_
   exact At.joined (Sub.cons rfl (Sub.cons rfl (Sub.cons rfl (Sub.cons rfl (Sub.cons rfl (Sub.cons rfl (Sub.cons (by show some (Value.bool (decide ((i : Int) < 20))) = some (Value.bool (decide ((i : Int) < (l1.length : Int)) && decide ((i : Int) < 20))); rw [hg1]; rfl) Sub.nil))))))) rfl
  ·skip
   refine At.set (d := 21) (u := .bool false) rfl (congrArg Value.bool hg1) ?_
   have hg1' := of_decide_eq_false hg1
   refine At.no rfl rfl rfl rfl rfl rfl rfl ?_
   refine At.no rfl rfl rfl rfl rfl rfl rfl ?_
   refine At.pickF rfl rfl rfl ?_
   exact At.joined (Sub.cons rfl (Sub.cons rfl (Sub.cons rfl (Sub.cons rfl (Sub.cons rfl (Sub.cons rfl (Sub.cons (by show some (Value.bool false) = some (Value.bool (decide ((i : Int) < (l1.length : Int)) && decide ((i : Int) < 20))); rw [hg1]; rfl) Sub.nil))))))) rfl
 ·skip
  subst hS
  refine At.thenN ?_
  refine At.cond (b := (decide ((i : Int) < (l1.length : Int)) && decide ((i : Int) < 20))) rfl (fun hc1 => ?_) (fun hc1 => ?_)
  ·skip
   refine At.skip ?_
   refine At.thenN ?_
   refine At.seq ?_
   refine At.block ?_
   refine At.seq ?_
   have hcc := hc1
   simp only [Bool.and_eq_true, decide_eq_true_eq] at hcc
   obtain ⟨hcc1, hcc2⟩ := hcc
   refine At.region ?_
   refine At.move rfl rfl ?_
   refine At.call en16 rfl rfl (digits_any i _ (by omega)) (fun e w4 hR => ?_)
   obtain ⟨rfl, hbl2⟩ := hR
   refine ⟨_, rfl, ?_⟩
   replace hOe := hOe.below hbl2
   replace hOd := hOd.below hbl2
   replace hB := Below.andThen hB hbl2
   refine At.catB (a := ([68] : List UInt8)) (b := (dgs i)) rfl rfl rfl (by first | (have q := decS_len l1 i (by omega); have q2 := dgs_len20 (n := i) (by omega); (try simp only [List.length_append, List.length_cons, List.length_nil]); omega) | (simp only [List.length_append, List.length_cons, List.length_nil, List.length_drop]; omega)) ?_
   refine At.assign rfl rfl ?_
   refine At.ops0 ?_
   refine At.thenN ?_
   refine At.seq ?_
   obtain ⟨ub, hub⟩ := some_of_lt (l := l1) (i := i) (by omega)
   refine At.region ?_
   refine At.move rfl rfl ?_
   refine At.move rfl rfl ?_
   refine At.indexAddr (i := i) rfl rfl hv1.ok (lt_of_some hub) el63 sz4 rfl ?_
   refine At.load rfl (Ld.cell ag4 (cell_keep (BoolsAt.get hv1 hub) hB)) rfl ?_
   refine At.ops0 ?_
   refine At.thenN ?_
   refine At.cond (b := ub) rfl (fun hc2 => ?_) (fun hc2 => ?_)
   ·skip
    refine At.seq ?_
    refine At.region ?_
    refine At.move rfl rfl ?_
    refine At.catB (a := (decS l1 i)) (b := ([101, 102, 102, 101, 99, 116, 32] : List UInt8)) rfl rfl rfl (by first | (have q := decS_len l1 i (by omega); have q2 := dgs_len20 (n := i) (by omega); (try simp only [List.length_append, List.length_cons, List.length_nil]); omega) | (simp only [List.length_append, List.length_cons, List.length_nil, List.length_drop]; omega)) ?_
    refine At.move rfl rfl ?_
    refine At.catB (a := ((decS l1 i) ++ ([101, 102, 102, 101, 99, 116, 32] : List UInt8))) (b := (([68] : List UInt8) ++ (dgs i))) rfl rfl rfl (by first | (have q := decS_len l1 i (by omega); have q2 := dgs_len20 (n := i) (by omega); (try simp only [List.length_append, List.length_cons, List.length_nil]); omega) | (simp only [List.length_append, List.length_cons, List.length_nil, List.length_drop]; omega)) ?_
    refine At.catB (a := (((decS l1 i) ++ ([101, 102, 102, 101, 99, 116, 32] : List UInt8)) ++ (([68] : List UInt8) ++ (dgs i)))) (b := ([32, 123, 32, 111, 112] : List UInt8)) rfl rfl rfl (by first | (have q := decS_len l1 i (by omega); have q2 := dgs_len20 (n := i) (by omega); (try simp only [List.length_append, List.length_cons, List.length_nil]); omega) | (simp only [List.length_append, List.length_cons, List.length_nil, List.length_drop]; omega)) ?_
    refine At.move rfl rfl ?_
    refine At.call en16 rfl rfl (digits_any i _ (by omega)) (fun e w5 hR => ?_)
    obtain ⟨rfl, hbl3⟩ := hR
    refine ⟨_, rfl, ?_⟩
    replace hOe := hOe.below hbl3
    replace hOd := hOd.below hbl3
    replace hB := Below.andThen hB hbl3
    refine At.catB (a := ((((decS l1 i) ++ ([101, 102, 102, 101, 99, 116, 32] : List UInt8)) ++ (([68] : List UInt8) ++ (dgs i))) ++ ([32, 123, 32, 111, 112] : List UInt8))) (b := (dgs i)) rfl rfl rfl (by first | (have q := decS_len l1 i (by omega); have q2 := dgs_len20 (n := i) (by omega); (try simp only [List.length_append, List.length_cons, List.length_nil]); omega) | (simp only [List.length_append, List.length_cons, List.length_nil, List.length_drop]; omega)) ?_
    refine At.catB (a := (((((decS l1 i) ++ ([101, 102, 102, 101, 99, 116, 32] : List UInt8)) ++ (([68] : List UInt8) ++ (dgs i))) ++ ([32, 123, 32, 111, 112] : List UInt8)) ++ (dgs i))) (b := ([32, 58, 32, 105, 110, 116, 32, 45, 62, 32] : List UInt8)) rfl rfl rfl (by first | (have q := decS_len l1 i (by omega); have q2 := dgs_len20 (n := i) (by omega); (try simp only [List.length_append, List.length_cons, List.length_nil]); omega) | (simp only [List.length_append, List.length_cons, List.length_nil, List.length_drop]; omega)) ?_
    refine At.move rfl rfl ?_
    refine At.catB (a := ((((((decS l1 i) ++ ([101, 102, 102, 101, 99, 116, 32] : List UInt8)) ++ (([68] : List UInt8) ++ (dgs i))) ++ ([32, 123, 32, 111, 112] : List UInt8)) ++ (dgs i)) ++ ([32, 58, 32, 105, 110, 116, 32, 45, 62, 32] : List UInt8))) (b := (([68] : List UInt8) ++ (dgs i))) rfl rfl rfl (by first | (have q := decS_len l1 i (by omega); have q2 := dgs_len20 (n := i) (by omega); (try simp only [List.length_append, List.length_cons, List.length_nil]); omega) | (simp only [List.length_append, List.length_cons, List.length_nil, List.length_drop]; omega)) ?_
    refine At.catB (a := (((((((decS l1 i) ++ ([101, 102, 102, 101, 99, 116, 32] : List UInt8)) ++ (([68] : List UInt8) ++ (dgs i))) ++ ([32, 123, 32, 111, 112] : List UInt8)) ++ (dgs i)) ++ ([32, 58, 32, 105, 110, 116, 32, 45, 62, 32] : List UInt8)) ++ (([68] : List UInt8) ++ (dgs i)))) (b := ([32, 125, 32] : List UInt8)) rfl rfl rfl (by first | (have q := decS_len l1 i (by omega); have q2 := dgs_len20 (n := i) (by omega); (try simp only [List.length_append, List.length_cons, List.length_nil]); omega) | (simp only [List.length_append, List.length_cons, List.length_nil, List.length_drop]; omega)) ?_
    refine At.assign rfl rfl ?_
    refine At.ops0 ?_
    refine At.thenN ?_
    refine At.region ?_
    refine At.move rfl rfl ?_
    refine At.move rfl rfl ?_
    refine At.buildSlice (xs := [.tmp 47]) rfl rfl el29 sz9 ze9 (by intro v hv; simp only [List.mem_cons, List.not_mem_nil, or_false] at hv; rcases hv with rfl <;> first | rfl | simp [Value.cells, Value.cells]) rfl (by decide) rfl (fun b1 w6 F1 => ?_)
    have q_hOe_b1 : some b1 ≠ Value.ownBlock ve := Own.neFresh hOe F1
    have q_hOd_b1 : some b1 ≠ Value.ownBlock vd := Own.neFresh hOd F1
    have gb1 := F1.ge hB
    replace hOe := hOe.fresh F1
    replace hOd := hOd.fresh F1
    have hb1 : w6.heap[b1]? = some (.cells #[.string (bs (([68] : List UInt8) ++ (dgs i)))] 9) := F1.new
    replace hB := F1.below' hB
    refine At.appendS (ss := ((eI true l1 i).map dnm)) rfl rfl el29 el29 sz9 by9 ze9 rfl hOe ((StrsAt.own (ss := [(bs (([68] : List UInt8) ++ (dgs i)))]) hb1 rfl (by decide) : StrsAt _ (.slice (some ⟨b1, 0, none⟩) 1 1) [(bs (([68] : List UInt8) ++ (dgs i)))])) (by first | omega | (simp; done) | (simp; omega)) rfl (fun va1 w7 hO1 hA1 => ?_)
    clear hb1
    have ap_hO1_hOd := Apart.app (hap) hA1 hOd
    replace hOd := AppR.apart hA1 hOd (Apart.symm hap)
    have ghO1 := hA1.ge hB.size gOe
    replace hB := hA1.below hB hB.size gOe
    refine At.assign rfl rfl ?_
    refine At.ops0 ?_
    refine At.inN ?_
    refine At.thenN ?_
    refine At.region ?_
    refine At.move rfl rfl ?_
    refine At.addI rfl rfl rfl (by first | omega | (simp; done) | (simp; omega)) ?_
    refine At.assign rfl rfl ?_
    refine At.ops0 ?_
    refine At.thenN ?_
    have hbb : l1.getD i false = true := (getD_b hub).trans hc2
    exact fun act_ hact_ => ⟨((i + 1), va1, vd), hact_.sub (Sub.cons rfl (Sub.cons rfl (Sub.cons (congrArg (fun l => some (Value.string (bs l))) (decS_t hbb)) (Sub.cons rfl (Sub.cons rfl (Sub.cons rfl Sub.nil)))))), ⟨hB, (by rw [eI_t hbb, List.map_append]; exact hO1), (by rw [eI_f hbb]; exact hOd), (by omega), (by omega), (ghO1), (gOd), (ap_hO1_hOd)⟩, by first | omega | (dsimp only; omega)⟩
   ·skip
    refine At.seq ?_
    refine At.region ?_
    refine At.move rfl rfl ?_
    refine At.catB (a := (decS l1 i)) (b := ([100, 97, 116, 97, 32] : List UInt8)) rfl rfl rfl (by first | (have q := decS_len l1 i (by omega); have q2 := dgs_len20 (n := i) (by omega); (try simp only [List.length_append, List.length_cons, List.length_nil]); omega) | (simp only [List.length_append, List.length_cons, List.length_nil, List.length_drop]; omega)) ?_
    refine At.move rfl rfl ?_
    refine At.catB (a := ((decS l1 i) ++ ([100, 97, 116, 97, 32] : List UInt8))) (b := (([68] : List UInt8) ++ (dgs i))) rfl rfl rfl (by first | (have q := decS_len l1 i (by omega); have q2 := dgs_len20 (n := i) (by omega); (try simp only [List.length_append, List.length_cons, List.length_nil]); omega) | (simp only [List.length_append, List.length_cons, List.length_nil, List.length_drop]; omega)) ?_
    refine At.catB (a := (((decS l1 i) ++ ([100, 97, 116, 97, 32] : List UInt8)) ++ (([68] : List UInt8) ++ (dgs i)))) (b := ([32, 123, 32, 67] : List UInt8)) rfl rfl rfl (by first | (have q := decS_len l1 i (by omega); have q2 := dgs_len20 (n := i) (by omega); (try simp only [List.length_append, List.length_cons, List.length_nil]); omega) | (simp only [List.length_append, List.length_cons, List.length_nil, List.length_drop]; omega)) ?_
    refine At.move rfl rfl ?_
    refine At.call en16 rfl rfl (digits_any i _ (by omega)) (fun e w8 hR => ?_)
    obtain ⟨rfl, hbl4⟩ := hR
    refine ⟨_, rfl, ?_⟩
    replace hOe := hOe.below hbl4
    replace hOd := hOd.below hbl4
    replace hB := Below.andThen hB hbl4
    refine At.catB (a := ((((decS l1 i) ++ ([100, 97, 116, 97, 32] : List UInt8)) ++ (([68] : List UInt8) ++ (dgs i))) ++ ([32, 123, 32, 67] : List UInt8))) (b := (dgs i)) rfl rfl rfl (by first | (have q := decS_len l1 i (by omega); have q2 := dgs_len20 (n := i) (by omega); (try simp only [List.length_append, List.length_cons, List.length_nil]); omega) | (simp only [List.length_append, List.length_cons, List.length_nil, List.length_drop]; omega)) ?_
    refine At.catB (a := (((((decS l1 i) ++ ([100, 97, 116, 97, 32] : List UInt8)) ++ (([68] : List UInt8) ++ (dgs i))) ++ ([32, 123, 32, 67] : List UInt8)) ++ (dgs i))) (b := ([32, 98, 111, 111, 108, 32, 117, 110, 105, 116, 32, 125, 32] : List UInt8)) rfl rfl rfl (by first | (have q := decS_len l1 i (by omega); have q2 := dgs_len20 (n := i) (by omega); (try simp only [List.length_append, List.length_cons, List.length_nil]); omega) | (simp only [List.length_append, List.length_cons, List.length_nil, List.length_drop]; omega)) ?_
    refine At.assign rfl rfl ?_
    refine At.ops0 ?_
    refine At.thenN ?_
    refine At.region ?_
    refine At.move rfl rfl ?_
    refine At.move rfl rfl ?_
    refine At.buildSlice (xs := [.tmp 60]) rfl rfl el29 sz9 ze9 (by intro v hv; simp only [List.mem_cons, List.not_mem_nil, or_false] at hv; rcases hv with rfl <;> first | rfl | simp [Value.cells, Value.cells]) rfl (by decide) rfl (fun b2 w9 F2 => ?_)
    have q_hOe_b2 : some b2 ≠ Value.ownBlock ve := Own.neFresh hOe F2
    have q_hOd_b2 : some b2 ≠ Value.ownBlock vd := Own.neFresh hOd F2
    have gb2 := F2.ge hB
    replace hOe := hOe.fresh F2
    replace hOd := hOd.fresh F2
    have hb2 : w9.heap[b2]? = some (.cells #[.string (bs (([68] : List UInt8) ++ (dgs i)))] 9) := F2.new
    replace hB := F2.below' hB
    refine At.appendS (ss := ((eI false l1 i).map dnm)) rfl rfl el29 el29 sz9 by9 ze9 rfl hOd ((StrsAt.own (ss := [(bs (([68] : List UInt8) ++ (dgs i)))]) hb2 rfl (by decide) : StrsAt _ (.slice (some ⟨b2, 0, none⟩) 1 1) [(bs (([68] : List UInt8) ++ (dgs i)))])) (by first | omega | (simp; done) | (simp; omega)) rfl (fun va2 w10 hO2 hA2 => ?_)
    clear hb2
    have ap_hO2_hOe := Apart.app (Apart.symm hap) hA2 hOe
    replace hOe := AppR.apart hA2 hOe (hap)
    have ghO2 := hA2.ge hB.size gOd
    replace hB := hA2.below hB hB.size gOd
    refine At.assign rfl rfl ?_
    refine At.ops0 ?_
    refine At.inN ?_
    refine At.thenN ?_
    refine At.region ?_
    refine At.move rfl rfl ?_
    refine At.addI rfl rfl rfl (by first | omega | (simp; done) | (simp; omega)) ?_
    refine At.assign rfl rfl ?_
    refine At.ops0 ?_
    refine At.thenN ?_
    have hbb : l1.getD i false = false := (getD_b hub).trans hc2
    exact fun act_ hact_ => ⟨((i + 1), ve, va2), hact_.sub (Sub.cons rfl (Sub.cons rfl (Sub.cons (congrArg (fun l => some (Value.string (bs l))) (decS_f hbb)) (Sub.cons rfl (Sub.cons rfl (Sub.cons rfl Sub.nil)))))), ⟨hB, (by rw [eI_f hbb]; exact hOe), (by rw [eI_t hbb, List.map_append]; exact hO2), (by omega), (by omega), (gOe), (ghO2), (Apart.symm ap_hO2_hOe)⟩, by first | omega | (dsimp only; omega)⟩
  ·skip
   refine At.exit ?_
   refine At.thenE ?_
   refine At.thenE ?_
   refine At.inE ?_
   refine At.thenN ?_
   refine At.seq ?_
   refine At.region ?_
   refine At.move rfl rfl ?_
   refine At.catB (a := (decS l1 i)) (b := ([40, 41] : List UInt8)) rfl rfl rfl (by first | (have q := decS_len l1 i (by omega); have q2 := dgs_len20 (n := i) (by omega); (try simp only [List.length_append, List.length_cons, List.length_nil]); omega) | (simp only [List.length_append, List.length_cons, List.length_nil, List.length_drop]; omega)) ?_
   refine At.toBytes (l := ((decS l1 i) ++ ([40, 41] : List UInt8))) rfl st9 el22 ik5 (by have q := decS_len l1 i (by omega); (try simp only [List.length_append, List.length_cons, List.length_nil]); omega) rfl (fun b3 cap1 w11 hgbb1 hbl5 hby1 => ?_)
   replace hOe := hOe.below hbl5
   replace hOd := hOd.below hbl5
   replace hB := Below.andThen hB hbl5
   have hml1 : MLt w11.heap.size [Value.ownBlock ve, Value.ownBlock vd] := (MLt.own hOe (MLt.own hOd (MLt.nil _)))
   refine At.call en13 rfl rfl (parse_any (.slice (some ⟨b3, 0, none⟩) ((decS l1 i) ++ ([40, 41] : List UInt8)).length cap1) ((decS l1 i) ++ ([40, 41] : List UInt8)) m _ (BytesAt.keep hby1 (Below.refl _ _)) (cell_keep hm hB)) (fun e w12 hR => ?_)
   obtain ⟨pr1, rfl, hbl6, hpk1, hsh1, hpl1, hpb1⟩ := hR
   refine ⟨_, rfl, ?_⟩
   replace hOe := hOe.below hbl6
   replace hOd := hOd.below hbl6
   replace hby1 := hby1.below hbl6
   replace hB := Below.andThen hB hbl6
   have hXp1 := Xs.of_new (B := 0) (M := [Value.ownBlock ve, Value.ownBlock vd]) (K := kPr) hpk1 (fun b hb => .inr (hpb1 b hb)) (fun _ _ => Nat.zero_le _) hml1
   clear hpk1 hpb1 hml1
   obtain ⟨xa, hx1⟩ := decl_parse l1 (n := i) (by omega)
   have hpr1 : parseR ((decS l1 i) ++ ([40, 41] : List UInt8)) = (some ⟨(eI true l1 i).map mkE, (eI false l1 i).map mkD, .mk 4 xa E0B E0B 0 [] []⟩, 0, 0) := hx1
   refine At.set (d := 67) (u := .tuple #[.agg pr1.cs, zI, zI]) rfl (by rw [hpr1]) ?_
   have hsp : shPr pr1 = ⟨(eI true l1 i).map mkE, (eI false l1 i).map mkD, .mk 4 xa E0B E0B 0 [] []⟩ := by rw [hsh1, hpr1]; rfl
   obtain ⟨fe1, fe2⟩ := effs_at hsp
   obtain ⟨fd1, fd2⟩ := dats_at hsp
   have fb := (shT_k pr1.body (show shT pr1.body = _ from congrArg SPr.body hsp)).1
   refine At.move rfl rfl ?_
   refine At.extract rfl rfl rfl ?_
   refine At.extract rfl rfl rfl ?_
   refine At.extract rfl rfl rfl ?_
   refine At.alloc ze37 rfl (fun b4 w13 F3 => ?_)
   have gb4 := F3.ge hB
   replace hOe := hOe.fresh F3
   replace hOd := hOd.fresh F3
   replace hby1 := hby1.fresh F3
   replace hXp1 := Xs.fresh hXp1 F3
   have hb4 : w13.heap[b4]? = some (.cells #[zN, zN, zI, zI, zS, zS, zI, zN, zN, zI, zS, zI, zN, zN, zI, zN, zI, zI, zS, zI, zN, zN, zI] 37) := F3.new
   replace hB := F3.below' hB
   refine At.storeAll rfl rfl hb4 (sz37.trans (congrArg some ((Xs.one hXp1)).size.symm)) ((Xs.one hXp1)).size.symm ((Xs.one hXp1)).one (fun w14 S1 => ?_)
   replace hOe := hOe.set S1 (hOe.neT hb4 rfl)
   replace hOd := hOd.set S1 (hOd.neT hb4 rfl)
   clear hby1
   replace hXp1 := Xs.set hXp1 S1 (by simp)
   replace hb4 : w14.heap[b4]? = some (.cells pr1.cs 37) := S1.new
   replace hB := S1.below' hB gb4
   refine At.assign rfl rfl ?_
   refine At.assign rfl rfl ?_
   refine At.ops0 ?_
   refine At.thenN ?_
   refine At.seq ?_
   refine At.seq ?_
   refine At.region ?_
   refine At.move rfl rfl ?_
   refine At.neI rfl rfl rfl ?_
   refine At.set (d := 72) (u := .bool false) rfl (congrArg Value.bool (by simp)) ?_
   refine At.move rfl rfl ?_
   refine At.yes rfl rfl rfl rfl ?_
   refine At.fieldAddr rfl fo37_0 rfl ?_
   refine At.yes rfl rfl rfl rfl ?_
   refine At.load rfl (Ld.ownCell ag24 hb4 ((Xs.one hXp1)).c0) rfl ?_
   refine At.yes rfl rfl rfl rfl ?_
   refine At.lenSl rfl (((Xs.one hXp1)).effsAt).okL el24 rfl ?_
   refine At.yes rfl rfl rfl rfl ?_
   refine At.move rfl rfl ?_
   refine At.yes rfl rfl rfl rfl ?_
   refine At.lenSl rfl (hOe.strs).ok el29 rfl ?_
   refine At.yes rfl rfl rfl rfl ?_
   refine At.neI rfl rfl rfl ?_
   refine At.pickF rfl rfl rfl ?_
   refine At.move rfl rfl ?_
   have hbb1 : ((!decide ((pr1.effs.length : Int) = (((eI true l1 i).map dnm).length : Int)))) = false := by simp [fe1, fd1, fb]
   refine At.set (d := 81) (u := .bool false) rfl (congrArg Value.bool hbb1) ?_
   refine At.yes rfl rfl rfl rfl ?_
   refine At.fieldAddr rfl fo37_1 rfl ?_
   refine At.yes rfl rfl rfl rfl ?_
   refine At.load rfl (Ld.ownCell ag25 hb4 ((Xs.one hXp1)).c1) rfl ?_
   refine At.yes rfl rfl rfl rfl ?_
   refine At.lenSl rfl (((Xs.one hXp1)).datsAt).okL el25 rfl ?_
   refine At.yes rfl rfl rfl rfl ?_
   refine At.move rfl rfl ?_
   refine At.yes rfl rfl rfl rfl ?_
   refine At.lenSl rfl (hOd.strs).ok el29 rfl ?_
   refine At.yes rfl rfl rfl rfl ?_
   refine At.neI rfl rfl rfl ?_
   refine At.pickF rfl rfl rfl ?_
   refine At.move rfl rfl ?_
   have hbb2 : ((!decide ((pr1.dats.length : Int) = (((eI false l1 i).map dnm).length : Int)))) = false := by simp [fe1, fd1, fb]
   refine At.set (d := 89) (u := .bool false) rfl (congrArg Value.bool hbb2) ?_
   refine At.yes rfl rfl rfl rfl ?_
   refine At.fieldAddr rfl fo37_2 rfl ?_
   refine At.yes rfl rfl rfl rfl ?_
   refine At.fieldAddr rfl fo35_0 rfl ?_
   refine At.yes rfl rfl rfl rfl ?_
   refine At.load rfl (Ld.ownCell ag3 hb4 (sub_cell ((Xs.one hXp1)).bodyCs (((Xs.one hXp1)).bodyOk).c0)) rfl ?_
   refine At.yes rfl rfl rfl rfl ?_
   refine At.neI rfl rfl rfl ?_
   refine At.pickF rfl rfl rfl ?_
   refine At.ops0 ?_
   refine At.thenN ?_
   have hb : ((!decide (pr1.body.k = 4))) = false := by simp [fe1, fd1, fb]
   refine At.set (d := 94) (u := .bool false) rfl (congrArg Value.bool hb) ?_
   refine At.condF rfl ?_
   refine At.skip ?_
   refine At.thenN ?_
   refine At.seq ?_
   refine At.seq ?_
   refine At.region ?_
   refine At.assign rfl rfl ?_
   refine At.ops0 ?_
   refine At.thenN ?_
   refine At.block ?_
   refine At.loop (Nat) (fun j => [(3, .bool true), (5, ve), (6, vd), (9, .pointer (some ⟨b4, 0, none⟩)), (12, .int .i64 (j : Int))]) (fun j w15 => Below w.heap.size w w15 ∧ w15.heap[b4]? = some (.cells pr1.cs 37) ∧ OwnS 9 w15 ve ((eI true l1 i).map dnm) ∧ OwnS 9 w15 vd ((eI false l1 i).map dnm) ∧ Xs kPr [some b4] w15 [pr1] ∧ (j ≤ (eI true l1 i).length)) (fun j => (eI true l1 i).length - j) (0 : Nat) (Sub.cons rfl (Sub.cons rfl (Sub.cons rfl (Sub.cons rfl (Sub.cons rfl Sub.nil))))) ⟨hB, hb4, hOe, hOd, (Xs.weaken (M' := [some b4]) hXp1 (SubM.cons (.head _) SubM.nil)), (by omega)⟩ (fun j w15 hI => ?_)
   clear hB hb4 hOe hOd hXp1
   obtain ⟨hB, hb4, hOe, hOd, hXp1, hj⟩ := hI
   show At _ _ [(3, .bool true), (5, ve), (6, vd), (9, .pointer (some ⟨b4, 0, none⟩)), (12, .int .i64 (j : Int))] _ _
   refine At.seq ?_
   refine At.seq ?_
   refine At.region ?_
   refine At.move rfl rfl ?_
   refine At.move rfl rfl ?_
   refine At.lenSl rfl (hOe.strs).ok el29 rfl ?_
   refine At.lss rfl rfl rfl ?_
   refine At.ops0 ?_
   refine At.thenN ?_
   refine At.cond (b := decide ((j : Int) < (((eI true l1 i).map dnm).length : Int))) rfl (fun hc3 => ?_) (fun hc3 => ?_)
   ·skip
    have hc3' := of_decide_eq_true hc3
    refine At.skip ?_
    refine At.thenN ?_
    refine At.seq ?_
    refine At.block ?_
    refine At.seq ?_
    have hjl : j < (eI true l1 i).length := by have q := hc3'; simp only [List.length_map] at q; omega
    obtain ⟨n, hn⟩ := some_of_lt (l := eI true l1 i) (i := j) hjl
    have hnl : (dgs n).length ≤ 19 := dgs_len20 (by have := eI_lt hn; omega)
    obtain ⟨u, hu⟩ := some_of_lt (l := pr1.effs) (i := j) (by omega)
    obtain ⟨f1, f2, f3⟩ := fe2 _ _ _ hu hn
    obtain ⟨o, ho⟩ := some_of_lt (l := u.ops) (i := 0) (by omega)
    obtain ⟨f4, f5, f6⟩ := f3 _ ho
    refine At.region ?_
    refine At.fieldAddr rfl fo37_0 rfl ?_
    refine At.load rfl (Ld.ownCell ag24 hb4 ((Xs.one hXp1)).c0) rfl ?_
    refine At.move rfl rfl ?_
    refine At.indexAddr (i := j) rfl rfl (((Xs.one hXp1)).effsAt).okL (lt_of_some hu) el24 sz55 rfl ?_
    refine At.load rfl (Ld.row ag55 (sz55.trans (congrArg some ((((Xs.one hXp1)).eff hu)).size.symm)) (((((Xs.one hXp1)).effsAt).row hu).keep (Below.refl _ _))) rfl ?_
    refine At.alloc ze55 rfl (fun b5 w16 F4 => ?_)
    have n_b4_b5 : b4 ≠ b5 := Nat.ne_of_lt (F4.lt hb4)
    have gb5 := F4.ge hB
    replace hb4 := F4.old hb4
    replace hOe := hOe.fresh F4
    replace hOd := hOd.fresh F4
    replace hXp1 := Xs.fresh hXp1 F4
    have hb5 : w16.heap[b5]? = some (.cells #[zS, zN] 55) := F4.new
    replace hB := F4.below' hB
    refine At.storeAll rfl rfl hb5 (sz55.trans (congrArg some ((((Xs.one hXp1)).eff hu)).size.symm)) ((((Xs.one hXp1)).eff hu)).size.symm ((((Xs.one hXp1)).eff hu)).one (fun w17 S2 => ?_)
    replace hb4 := S2.other hb4 n_b4_b5
    replace hOe := hOe.set S2 (hOe.neT hb5 rfl)
    replace hOd := hOd.set S2 (hOd.neT hb5 rfl)
    replace hXp1 := Xs.set hXp1 S2 (by simp)
    replace hb5 : w17.heap[b5]? = some (.cells u.cs 55) := S2.new
    replace hB := S2.below' hB gb5
    refine At.ops0 ?_
    refine At.thenN ?_
    refine At.seq ?_
    have hbb3 : ((!decide (u.nm = (bs (([68] : List UInt8) ++ (dgs n)))))) = false := by simp [f1, f2, f4, f5]
    have hbb4 : ((!decide ((u.ops.length : Int) = 1))) = false := by simp [f1, f2, f4, f5]
    have hle1 : 1 ≤ (([68] : List UInt8) ++ (dgs n)).length := by first | omega | (simp; done) | (simp; omega)
    have hbb5 : ((!decide (o.nm = (bs (([111, 112] : List UInt8) ++ ((([68] : List UInt8) ++ (dgs n)).drop 1)))))) = false := by simp [f1, f2, f4, f5]
    have hbb6 : ((!decide (o.arg.k = 1))) = false := by simp [f1, f2, f4, f5, f6]
    refine At.drawG (n := 49) mixed (by kernel_rfl) rfl (PanicOk.then (PanicOk.block (PanicOk.then (PanicOk.then (PanicOk.block (PanicOk.then PanicOk.body)))))) ?_
    have hB := Below.drewB hB
    have hb4 : _ := (show w17.drew.heap[b4]? = _ from hb4)
    have hb5 : _ := (show w17.drew.heap[b5]? = _ from hb5)
    have hOe := hOe.drew
    have hOd := hOd.drew
    have hXp1 := Xs.drew hXp1
    refine At.wpcL (tf 0 49) (by kernel_rfl) ?_
    refine At.wpcS (i := 0) (d := 106) (.pointer (some ⟨b5, 0 + 0, none⟩)) (by kernel_rfl) rfl rfl rfl (fun Lx => ?_) ?_
    ·skip
     refine At.fieldAddr rfl fo55_0 rfl ?_
     refine At.ops0 ?_
     exact fun a ha => ⟨ha, rfl⟩
    refine At.wpcL (tf 1 49) (by kernel_rfl) ?_
    refine At.wpcS (i := 1) (d := 107) (.string u.nm) (by kernel_rfl) rfl rfl rfl (fun Lx => ?_) ?_
    ·skip
     refine At.load rfl (Ld.ownCell ag9 hb5 ((((Xs.one hXp1)).eff hu)).c0) rfl ?_
     refine At.ops0 ?_
     exact fun a ha => ⟨ha, rfl⟩
    refine At.wpcL (tf 2 49) (by kernel_rfl) ?_
    refine At.wpcS (i := 2) (d := 108) (ve) (by kernel_rfl) rfl rfl rfl (fun Lx => ?_) ?_
    ·skip
     refine At.move rfl rfl ?_
     refine At.ops0 ?_
     exact fun a ha => ⟨ha, rfl⟩
    refine At.wpcL (tf 3 49) (by kernel_rfl) ?_
    refine At.wpcS (i := 3) (d := 109) (.int .i64 (j : Int)) (by kernel_rfl) rfl rfl rfl (fun Lx => ?_) ?_
    ·skip
     refine At.move rfl rfl ?_
     refine At.ops0 ?_
     exact fun a ha => ⟨ha, rfl⟩
    refine At.wpcL (tf 4 49) (by kernel_rfl) ?_
    refine At.wpcS (i := 4) (d := 110) (.pointer (some ⟨vBlock ve, vOff ve + j * 1, none⟩)) (by kernel_rfl) rfl rfl rfl (fun Lx => ?_) ?_
    ·skip
     refine At.indexAddr (i := j) rfl rfl (hOe.strs).ok (lt_of_some (dnm_at hn)) el29 sz9 rfl ?_
     refine At.ops0 ?_
     exact fun a ha => ⟨ha, rfl⟩
    refine At.wpcL (tf 5 49) (by kernel_rfl) ?_
    refine At.wpcS (i := 5) (d := 111) (.string (bs (([68] : List UInt8) ++ (dgs n)))) (by kernel_rfl) rfl rfl rfl (fun Lx => ?_) ?_
    ·skip
     refine At.load rfl (Ld.cell ag9 (cell_keep ((hOe.strs).get (dnm_at hn)) (Below.refl _ _))) rfl ?_
     refine At.ops0 ?_
     exact fun a ha => ⟨ha, rfl⟩
    refine At.wpcL (tf 6 49) (by kernel_rfl) ?_
    refine At.wpcS (i := 6) (d := 112) (.bool (!decide (u.nm = (bs (([68] : List UInt8) ++ (dgs n)))))) (by kernel_rfl) rfl rfl rfl (fun Lx => ?_) ?_
    ·skip
     refine At.neS rfl rfl rfl ?_
     refine At.ops0 ?_
     exact fun a ha => ⟨ha, rfl⟩
    refine At.set (d := 112) (u := .bool false) rfl (congrArg Value.bool hbb3) ?_
    refine At.wpcL (tf 7 49) (by kernel_rfl) ?_
    refine At.wpcS (i := 7) (d := 113) (.bool false) (by kernel_rfl) rfl rfl rfl (fun Lx => ?_) ?_
    ·skip
     refine At.move rfl rfl ?_
     refine At.ops0 ?_
     exact fun a ha => ⟨ha, rfl⟩
    refine At.wpcL (tf 8 49) (by kernel_rfl) ?_
    refine At.wpcS (i := 8) (d := 114) (.pointer (some ⟨b5, 0 + 1, none⟩)) (by kernel_rfl) rfl rfl rfl (fun Lx => ?_) ?_
    ·skip
     refine At.yes rfl rfl rfl rfl ?_
     refine At.fieldAddr rfl fo55_1 rfl ?_
     refine At.ops0 ?_
     exact fun a ha => ⟨ha, rfl⟩
    refine At.wpcL (tf 9 49) (by kernel_rfl) ?_
    refine At.wpcS (i := 9) (d := 115) (u.ov) (by kernel_rfl) rfl rfl rfl (fun Lx => ?_) ?_
    ·skip
     refine At.yes rfl rfl rfl rfl ?_
     refine At.load rfl (Ld.ownCell ag53 hb5 ((((Xs.one hXp1)).eff hu)).c1) rfl ?_
     refine At.ops0 ?_
     exact fun a ha => ⟨ha, rfl⟩
    refine At.wpcL (tf 10 49) (by kernel_rfl) ?_
    refine At.wpcS (i := 10) (d := 116) (.int .i64 (u.ops.length : Int)) (by kernel_rfl) rfl rfl rfl (fun Lx => ?_) ?_
    ·skip
     refine At.yes rfl rfl rfl rfl ?_
     refine At.lenSl rfl (((((Xs.one hXp1)).eff hu)).opsAt).okL el53 rfl ?_
     refine At.ops0 ?_
     exact fun a ha => ⟨ha, rfl⟩
    refine At.wpcL (tf 11 49) (by kernel_rfl) ?_
    refine At.wpcS (i := 11) (d := 117) (.bool (!decide ((u.ops.length : Int) = 1))) (by kernel_rfl) rfl rfl rfl (fun Lx => ?_) ?_
    ·skip
     refine At.yes rfl rfl rfl rfl ?_
     refine At.neI rfl rfl rfl ?_
     refine At.ops0 ?_
     exact fun a ha => ⟨ha, rfl⟩
    refine At.set (d := 117) (u := .bool false) rfl (congrArg Value.bool hbb4) ?_
    refine At.wpcL (tf 12 49) (by kernel_rfl) ?_
    refine At.wpcS (i := 12) (d := 118) (.bool false) (by kernel_rfl) rfl rfl rfl (fun Lx => ?_) ?_
    ·skip
     refine At.pickF rfl rfl rfl ?_
     refine At.ops0 ?_
     exact fun a ha => ⟨ha, rfl⟩
    refine At.wpcL (tf 13 49) (by kernel_rfl) ?_
    refine At.wpcS (i := 13) (d := 119) (.bool false) (by kernel_rfl) rfl rfl rfl (fun Lx => ?_) ?_
    ·skip
     refine At.move rfl rfl ?_
     refine At.ops0 ?_
     exact fun a ha => ⟨ha, rfl⟩
    refine At.wpcL (tf 14 49) (by kernel_rfl) ?_
    refine At.wpcS (i := 14) (d := 120) (.pointer (some ⟨b5, 0 + 1, none⟩)) (by kernel_rfl) rfl rfl rfl (fun Lx => ?_) ?_
    ·skip
     refine At.yes rfl rfl rfl rfl ?_
     refine At.fieldAddr rfl fo55_1 rfl ?_
     refine At.ops0 ?_
     exact fun a ha => ⟨ha, rfl⟩
    refine At.wpcL (tf 15 49) (by kernel_rfl) ?_
    refine At.wpcS (i := 15) (d := 121) (u.ov) (by kernel_rfl) rfl rfl rfl (fun Lx => ?_) ?_
    ·skip
     refine At.yes rfl rfl rfl rfl ?_
     refine At.load rfl (Ld.ownCell ag53 hb5 ((((Xs.one hXp1)).eff hu)).c1) rfl ?_
     refine At.ops0 ?_
     exact fun a ha => ⟨ha, rfl⟩
    refine At.wpcL (tf 16 49) (by kernel_rfl) ?_
    refine At.wpcS (i := 16) (d := 122) (.pointer (some ⟨vBlock u.ov, vOff u.ov + 0 * 13, none⟩)) (by kernel_rfl) rfl rfl rfl (fun Lx => ?_) ?_
    ·skip
     refine At.yes rfl rfl rfl rfl ?_
     refine At.indexAddr (i := 0) rfl rfl (((((Xs.one hXp1)).eff hu)).opsAt).okL (lt_of_some ho) el53 sz57 rfl ?_
     refine At.ops0 ?_
     exact fun a ha => ⟨ha, rfl⟩
    refine At.wpcL (tf 17 49) (by kernel_rfl) ?_
    refine At.wpcS (i := 17) (d := 123) (.pointer (some ⟨vBlock u.ov, vOff u.ov + 0 * 13 + 0, none⟩)) (by kernel_rfl) rfl rfl rfl (fun Lx => ?_) ?_
    ·skip
     refine At.yes rfl rfl rfl rfl ?_
     refine At.fieldAddr rfl fo57_0 rfl ?_
     refine At.ops0 ?_
     exact fun a ha => ⟨ha, rfl⟩
    refine At.wpcL (tf 18 49) (by kernel_rfl) ?_
    refine At.wpcS (i := 18) (d := 124) (.string o.nm) (by kernel_rfl) rfl rfl rfl (fun Lx => ?_) ?_
    ·skip
     refine At.yes rfl rfl rfl rfl ?_
     refine At.load rfl (Ld.cell ag9 (cell_keep (((((((Xs.one hXp1)).eff hu)).opsAt).row ho).get ((((((Xs.one hXp1)).eff hu)).op ho)).c0) (Below.refl _ _))) rfl ?_
     refine At.ops0 ?_
     exact fun a ha => ⟨ha, rfl⟩
    refine At.wpcL (tf 19 49) (by kernel_rfl) ?_
    refine At.wpcS (i := 19) (d := 125) (ve) (by kernel_rfl) rfl rfl rfl (fun Lx => ?_) ?_
    ·skip
     refine At.yes rfl rfl rfl rfl ?_
     refine At.move rfl rfl ?_
     refine At.ops0 ?_
     exact fun a ha => ⟨ha, rfl⟩
    refine At.wpcL (tf 20 49) (by kernel_rfl) ?_
    refine At.wpcS (i := 20) (d := 126) (.int .i64 (j : Int)) (by kernel_rfl) rfl rfl rfl (fun Lx => ?_) ?_
    ·skip
     refine At.yes rfl rfl rfl rfl ?_
     refine At.move rfl rfl ?_
     refine At.ops0 ?_
     exact fun a ha => ⟨ha, rfl⟩
    refine At.wpcL (tf 21 49) (by kernel_rfl) ?_
    refine At.wpcS (i := 21) (d := 127) (.pointer (some ⟨vBlock ve, vOff ve + j * 1, none⟩)) (by kernel_rfl) rfl rfl rfl (fun Lx => ?_) ?_
    ·skip
     refine At.yes rfl rfl rfl rfl ?_
     refine At.indexAddr (i := j) rfl rfl (hOe.strs).ok (lt_of_some (dnm_at hn)) el29 sz9 rfl ?_
     refine At.ops0 ?_
     exact fun a ha => ⟨ha, rfl⟩
    refine At.wpcL (tf 22 49) (by kernel_rfl) ?_
    refine At.wpcS (i := 22) (d := 128) (.string (bs (([68] : List UInt8) ++ (dgs n)))) (by kernel_rfl) rfl rfl rfl (fun Lx => ?_) ?_
    ·skip
     refine At.yes rfl rfl rfl rfl ?_
     refine At.load rfl (Ld.cell ag9 (cell_keep ((hOe.strs).get (dnm_at hn)) (Below.refl _ _))) rfl ?_
     refine At.ops0 ?_
     exact fun a ha => ⟨ha, rfl⟩
    refine At.wpcL (tf 23 49) (by kernel_rfl) ?_
    refine At.wpcS (i := 23) (d := 129) (.string (bs ((([68] : List UInt8) ++ (dgs n)).drop 1))) (by kernel_rfl) rfl rfl rfl (fun Lx => ?_) ?_
    ·skip
     refine At.yes rfl rfl rfl rfl ?_
     refine At.dropB (l := (([68] : List UInt8) ++ (dgs n))) (h := 1) rfl rfl st9 hle1 rfl ?_
     refine At.ops0 ?_
     exact fun a ha => ⟨ha, rfl⟩
    refine At.wpcL (tf 24 49) (by kernel_rfl) ?_
    refine At.wpcS (i := 24) (d := 130) (.string (bs (([111, 112] : List UInt8) ++ ((([68] : List UInt8) ++ (dgs n)).drop 1)))) (by kernel_rfl) rfl rfl rfl (fun Lx => ?_) ?_
    ·skip
     refine At.yes rfl rfl rfl rfl ?_
     refine At.catB (a := ([111, 112] : List UInt8)) (b := ((([68] : List UInt8) ++ (dgs n)).drop 1)) rfl rfl rfl (by first | (have q := decS_len l1 i (by omega); have q2 := dgs_len20 (n := i) (by omega); (try simp only [List.length_append, List.length_cons, List.length_nil]); omega) | (simp only [List.length_append, List.length_cons, List.length_nil, List.length_drop]; omega)) ?_
     refine At.ops0 ?_
     exact fun a ha => ⟨ha, rfl⟩
    refine At.wpcL (tf 25 49) (by kernel_rfl) ?_
    refine At.wpcS (i := 25) (d := 131) (.bool (!decide (o.nm = (bs (([111, 112] : List UInt8) ++ ((([68] : List UInt8) ++ (dgs n)).drop 1)))))) (by kernel_rfl) rfl rfl rfl (fun Lx => ?_) ?_
    ·skip
     refine At.yes rfl rfl rfl rfl ?_
     refine At.neS rfl rfl rfl ?_
     refine At.ops0 ?_
     exact fun a ha => ⟨ha, rfl⟩
    refine At.set (d := 131) (u := .bool false) rfl (congrArg Value.bool hbb5) ?_
    refine At.wpcL (tf 26 49) (by kernel_rfl) ?_
    refine At.wpcS (i := 26) (d := 132) (.bool false) (by kernel_rfl) rfl rfl rfl (fun Lx => ?_) ?_
    ·skip
     refine At.pickF rfl rfl rfl ?_
     refine At.ops0 ?_
     exact fun a ha => ⟨ha, rfl⟩
    refine At.wpcL (tf 27 49) (by kernel_rfl) ?_
    refine At.wpcS (i := 27) (d := 133) (.bool false) (by kernel_rfl) rfl rfl rfl (fun Lx => ?_) ?_
    ·skip
     refine At.move rfl rfl ?_
     refine At.ops0 ?_
     exact fun a ha => ⟨ha, rfl⟩
    refine At.wpcL (tf 28 49) (by kernel_rfl) ?_
    refine At.wpcS (i := 28) (d := 134) (.pointer (some ⟨b5, 0 + 1, none⟩)) (by kernel_rfl) rfl rfl rfl (fun Lx => ?_) ?_
    ·skip
     refine At.yes rfl rfl rfl rfl ?_
     refine At.fieldAddr rfl fo55_1 rfl ?_
     refine At.ops0 ?_
     exact fun a ha => ⟨ha, rfl⟩
    refine At.wpcL (tf 29 49) (by kernel_rfl) ?_
    refine At.wpcS (i := 29) (d := 135) (u.ov) (by kernel_rfl) rfl rfl rfl (fun Lx => ?_) ?_
    ·skip
     refine At.yes rfl rfl rfl rfl ?_
     refine At.load rfl (Ld.ownCell ag53 hb5 ((((Xs.one hXp1)).eff hu)).c1) rfl ?_
     refine At.ops0 ?_
     exact fun a ha => ⟨ha, rfl⟩
    refine At.wpcL (tf 30 49) (by kernel_rfl) ?_
    refine At.wpcS (i := 30) (d := 136) (.pointer (some ⟨vBlock u.ov, vOff u.ov + 0 * 13, none⟩)) (by kernel_rfl) rfl rfl rfl (fun Lx => ?_) ?_
    ·skip
     refine At.yes rfl rfl rfl rfl ?_
     refine At.indexAddr (i := 0) rfl rfl (((((Xs.one hXp1)).eff hu)).opsAt).okL (lt_of_some ho) el53 sz57 rfl ?_
     refine At.ops0 ?_
     exact fun a ha => ⟨ha, rfl⟩
    refine At.wpcL (tf 31 49) (by kernel_rfl) ?_
    refine At.wpcS (i := 31) (d := 137) (.pointer (some ⟨vBlock u.ov, vOff u.ov + 0 * 13 + 1, none⟩)) (by kernel_rfl) rfl rfl rfl (fun Lx => ?_) ?_
    ·skip
     refine At.yes rfl rfl rfl rfl ?_
     refine At.fieldAddr rfl fo57_1 rfl ?_
     refine At.ops0 ?_
     exact fun a ha => ⟨ha, rfl⟩
    refine At.wpcL (tf 32 49) (by kernel_rfl) ?_
    refine At.wpcS (i := 32) (d := 138) (.pointer (some ⟨vBlock u.ov, vOff u.ov + 0 * 13 + 1 + 0, none⟩)) (by kernel_rfl) rfl rfl rfl (fun Lx => ?_) ?_
    ·skip
     refine At.yes rfl rfl rfl rfl ?_
     refine At.fieldAddr rfl fo33_0 rfl ?_
     refine At.ops0 ?_
     exact fun a ha => ⟨ha, rfl⟩
    refine At.wpcL (tf 33 49) (by kernel_rfl) ?_
    refine At.wpcS (i := 33) (d := 139) (.int .i64 o.arg.k) (by kernel_rfl) rfl rfl rfl (fun Lx => ?_) ?_
    ·skip
     refine At.yes rfl rfl rfl rfl ?_
     refine At.load rfl (Ld.cell ag3 (cell_keep (((((((Xs.one hXp1)).eff hu)).opsAt).row ho).get (sub_cell ((((((Xs.one hXp1)).eff hu)).op ho)).argCs (((((((Xs.one hXp1)).eff hu)).op ho)).argOk).c0)) (Below.refl _ _))) rfl ?_
     refine At.ops0 ?_
     exact fun a ha => ⟨ha, rfl⟩
    refine At.wpcL (tf 34 49) (by kernel_rfl) ?_
    refine At.wpcS (i := 34) (d := 140) (.bool (!decide (o.arg.k = 1))) (by kernel_rfl) rfl rfl rfl (fun Lx => ?_) ?_
    ·skip
     refine At.yes rfl rfl rfl rfl ?_
     refine At.neI rfl rfl rfl ?_
     refine At.ops0 ?_
     exact fun a ha => ⟨ha, rfl⟩
    refine At.set (d := 140) (u := .bool false) rfl (congrArg Value.bool hbb6) ?_
    refine At.wpcL (tf 35 49) (by kernel_rfl) ?_
    refine At.wpcS (i := 35) (d := 141) (.bool false) (by kernel_rfl) rfl rfl rfl (fun Lx => ?_) ?_
    ·skip
     refine At.pickF rfl rfl rfl ?_
     refine At.ops0 ?_
     exact fun a ha => ⟨ha, rfl⟩
    refine At.wpcL (tf 36 49) (by kernel_rfl) ?_
    refine At.wpcS (i := 36) (d := 142) (.bool false) (by kernel_rfl) rfl rfl rfl (fun Lx => ?_) ?_
    ·skip
     refine At.move rfl rfl ?_
     refine At.ops0 ?_
     exact fun a ha => ⟨ha, rfl⟩
    refine At.wpcL (tf 37 49) (by kernel_rfl) ?_
    refine At.wpcS (i := 37) (d := 143) (.pointer (some ⟨b5, 0 + 1, none⟩)) (by kernel_rfl) rfl rfl rfl (fun Lx => ?_) ?_
    ·skip
     refine At.yes rfl rfl rfl rfl ?_
     refine At.fieldAddr rfl fo55_1 rfl ?_
     refine At.ops0 ?_
     exact fun a ha => ⟨ha, rfl⟩
    refine At.wpcL (tf 38 49) (by kernel_rfl) ?_
    refine At.wpcS (i := 38) (d := 144) (u.ov) (by kernel_rfl) rfl rfl rfl (fun Lx => ?_) ?_
    ·skip
     refine At.yes rfl rfl rfl rfl ?_
     refine At.load rfl (Ld.ownCell ag53 hb5 ((((Xs.one hXp1)).eff hu)).c1) rfl ?_
     refine At.ops0 ?_
     exact fun a ha => ⟨ha, rfl⟩
    refine At.wpcL (tf 39 49) (by kernel_rfl) ?_
    refine At.wpcS (i := 39) (d := 145) (.pointer (some ⟨vBlock u.ov, vOff u.ov + 0 * 13, none⟩)) (by kernel_rfl) rfl rfl rfl (fun Lx => ?_) ?_
    ·skip
     refine At.yes rfl rfl rfl rfl ?_
     refine At.indexAddr (i := 0) rfl rfl (((((Xs.one hXp1)).eff hu)).opsAt).okL (lt_of_some ho) el53 sz57 rfl ?_
     refine At.ops0 ?_
     exact fun a ha => ⟨ha, rfl⟩
    refine At.wpcL (tf 40 49) (by kernel_rfl) ?_
    refine At.wpcS (i := 40) (d := 146) (.pointer (some ⟨vBlock u.ov, vOff u.ov + 0 * 13 + 7, none⟩)) (by kernel_rfl) rfl rfl rfl (fun Lx => ?_) ?_
    ·skip
     refine At.yes rfl rfl rfl rfl ?_
     refine At.fieldAddr rfl fo57_2 rfl ?_
     refine At.ops0 ?_
     exact fun a ha => ⟨ha, rfl⟩
    refine At.wpcL (tf 41 49) (by kernel_rfl) ?_
    refine At.wpcS (i := 41) (d := 147) (.pointer (some ⟨vBlock u.ov, vOff u.ov + 0 * 13 + 7 + 1, none⟩)) (by kernel_rfl) rfl rfl rfl (fun Lx => ?_) ?_
    ·skip
     refine At.yes rfl rfl rfl rfl ?_
     refine At.fieldAddr rfl fo33_1 rfl ?_
     refine At.ops0 ?_
     exact fun a ha => ⟨ha, rfl⟩
    refine At.wpcL (tf 42 49) (by kernel_rfl) ?_
    refine At.wpcS (i := 42) (d := 148) (.string o.res.nm) (by kernel_rfl) rfl rfl rfl (fun Lx => ?_) ?_
    ·skip
     refine At.yes rfl rfl rfl rfl ?_
     refine At.load rfl (Ld.cell ag9 (cell_keep (((((((Xs.one hXp1)).eff hu)).opsAt).row ho).get (sub_cell ((((((Xs.one hXp1)).eff hu)).op ho)).resCs (((((((Xs.one hXp1)).eff hu)).op ho)).resOk).c1)) (Below.refl _ _))) rfl ?_
     refine At.ops0 ?_
     exact fun a ha => ⟨ha, rfl⟩
    refine At.wpcL (tf 43 49) (by kernel_rfl) ?_
    refine At.wpcS (i := 43) (d := 149) (ve) (by kernel_rfl) rfl rfl rfl (fun Lx => ?_) ?_
    ·skip
     refine At.yes rfl rfl rfl rfl ?_
     refine At.move rfl rfl ?_
     refine At.ops0 ?_
     exact fun a ha => ⟨ha, rfl⟩
    refine At.wpcL (tf 44 49) (by kernel_rfl) ?_
    refine At.wpcS (i := 44) (d := 150) (.int .i64 (j : Int)) (by kernel_rfl) rfl rfl rfl (fun Lx => ?_) ?_
    ·skip
     refine At.yes rfl rfl rfl rfl ?_
     refine At.move rfl rfl ?_
     refine At.ops0 ?_
     exact fun a ha => ⟨ha, rfl⟩
    refine At.wpcL (tf 45 49) (by kernel_rfl) ?_
    refine At.wpcS (i := 45) (d := 151) (.pointer (some ⟨vBlock ve, vOff ve + j * 1, none⟩)) (by kernel_rfl) rfl rfl rfl (fun Lx => ?_) ?_
    ·skip
     refine At.yes rfl rfl rfl rfl ?_
     refine At.indexAddr (i := j) rfl rfl (hOe.strs).ok (lt_of_some (dnm_at hn)) el29 sz9 rfl ?_
     refine At.ops0 ?_
     exact fun a ha => ⟨ha, rfl⟩
    refine At.wpcL (tf 46 49) (by kernel_rfl) ?_
    refine At.wpcS (i := 46) (d := 152) (.string (bs (([68] : List UInt8) ++ (dgs n)))) (by kernel_rfl) rfl rfl rfl (fun Lx => ?_) ?_
    ·skip
     refine At.yes rfl rfl rfl rfl ?_
     refine At.load rfl (Ld.cell ag9 (cell_keep ((hOe.strs).get (dnm_at hn)) (Below.refl _ _))) rfl ?_
     refine At.ops0 ?_
     exact fun a ha => ⟨ha, rfl⟩
    refine At.wpcL (tf 47 49) (by kernel_rfl) ?_
    refine At.wpcS (i := 47) (d := 153) (.bool (!decide (o.res.nm = (bs (([68] : List UInt8) ++ (dgs n)))))) (by kernel_rfl) rfl rfl rfl (fun Lx => ?_) ?_
    ·skip
     refine At.yes rfl rfl rfl rfl ?_
     refine At.neS rfl rfl rfl ?_
     refine At.ops0 ?_
     exact fun a ha => ⟨ha, rfl⟩
    refine At.wpcL (tf 48 49) (by kernel_rfl) ?_
    refine At.wpcS (i := 48) (d := 154) (.bool (!decide (o.res.nm = (bs (([68] : List UInt8) ++ (dgs n)))))) (by kernel_rfl) rfl rfl rfl (fun Lx => ?_) ?_
    ·skip
     refine At.pickF rfl rfl rfl ?_
     refine At.ops0 ?_
     exact fun a ha => ⟨ha, rfl⟩
    refine At.wpcZ ?_
    refine At.thenN ?_
    have hb : ((!decide (o.res.nm = (bs (([68] : List UInt8) ++ (dgs n)))))) = false := by simp [f1, f2, f4, f5, f6]
    refine At.set (d := 154) (u := .bool false) rfl (congrArg Value.bool hb) ?_
    refine At.condF rfl ?_
    refine At.skip ?_
    refine At.inN ?_
    refine At.thenN ?_
    refine At.region ?_
    refine At.move rfl rfl ?_
    refine At.addI rfl rfl rfl (by first | omega | (simp; done) | (simp; omega)) ?_
    refine At.assign rfl rfl ?_
    refine At.ops0 ?_
    refine At.thenN ?_
    exact fun act_ hact_ => ⟨(j + 1), hact_.sub (Sub.cons rfl (Sub.cons rfl (Sub.cons rfl (Sub.cons rfl (Sub.cons rfl Sub.nil))))), ⟨hB, hb4, hOe, hOd, (Xs.weaken (M' := [some b4]) hXp1 (SubM.cons (.tail _ (.head _)) SubM.nil)), (by omega)⟩, by first | omega | (dsimp only; omega)⟩
   ·skip
    have hc3' := of_decide_eq_false hc3
    refine At.exit ?_
    refine At.thenE ?_
    refine At.thenE ?_
    refine At.inE ?_
    refine At.thenN ?_
    refine At.seq ?_
    refine At.seq ?_
    refine At.region ?_
    refine At.assign rfl rfl ?_
    refine At.ops0 ?_
    refine At.thenN ?_
    refine At.block ?_
    refine At.loop (Nat) (fun j => [(3, .bool true), (6, vd), (9, .pointer (some ⟨b4, 0, none⟩)), (14, .int .i64 (j : Int))]) (fun j w18 => Below w.heap.size w w18 ∧ w18.heap[b4]? = some (.cells pr1.cs 37) ∧ OwnS 9 w18 vd ((eI false l1 i).map dnm) ∧ Xs kPr [some b4] w18 [pr1] ∧ (j ≤ (eI false l1 i).length)) (fun j => (eI false l1 i).length - j) (0 : Nat) (Sub.cons rfl (Sub.cons rfl (Sub.cons rfl (Sub.cons rfl Sub.nil)))) ⟨hB, hb4, hOd, (Xs.weaken (M' := [some b4]) hXp1 (SubM.cons (.head _) SubM.nil)), (by omega)⟩ (fun j w18 hI => ?_)
    clear hB hb4 hOe hOd hXp1
    obtain ⟨hB, hb4, hOd, hXp1, hj⟩ := hI
    show At _ _ [(3, .bool true), (6, vd), (9, .pointer (some ⟨b4, 0, none⟩)), (14, .int .i64 (j : Int))] _ _
    refine At.seq ?_
    refine At.seq ?_
    refine At.region ?_
    refine At.move rfl rfl ?_
    refine At.move rfl rfl ?_
    refine At.lenSl rfl (hOd.strs).ok el29 rfl ?_
    refine At.lss rfl rfl rfl ?_
    refine At.ops0 ?_
    refine At.thenN ?_
    refine At.cond (b := decide ((j : Int) < (((eI false l1 i).map dnm).length : Int))) rfl (fun hc4 => ?_) (fun hc4 => ?_)
    ·skip
     have hc4' := of_decide_eq_true hc4
     refine At.skip ?_
     refine At.thenN ?_
     refine At.seq ?_
     refine At.block ?_
     refine At.seq ?_
     have hjl : j < (eI false l1 i).length := by have q := hc4'; simp only [List.length_map] at q; omega
     obtain ⟨n, hn⟩ := some_of_lt (l := eI false l1 i) (i := j) hjl
     have hnl : (dgs n).length ≤ 19 := dgs_len20 (by have := eI_lt hn; omega)
     obtain ⟨u, hu⟩ := some_of_lt (l := pr1.dats) (i := j) (by omega)
     obtain ⟨f1, f2, f3⟩ := fd2 _ _ _ hu hn
     obtain ⟨o, ho⟩ := some_of_lt (l := u.cons) (i := 0) (by omega)
     obtain ⟨f4, f5, f6⟩ := f3 _ ho
     obtain ⟨t, ht⟩ := some_of_lt (l := o.fields) (i := 1) (by omega)
     have f7 := f6 _ ht
     refine At.region ?_
     refine At.fieldAddr rfl fo37_1 rfl ?_
     refine At.load rfl (Ld.ownCell ag25 hb4 ((Xs.one hXp1)).c1) rfl ?_
     refine At.move rfl rfl ?_
     refine At.indexAddr (i := j) rfl rfl (((Xs.one hXp1)).datsAt).okL (lt_of_some hu) el25 sz66 rfl ?_
     refine At.load rfl (Ld.row ag66 (sz66.trans (congrArg some ((((Xs.one hXp1)).dat hu)).size.symm)) (((((Xs.one hXp1)).datsAt).row hu).keep (Below.refl _ _))) rfl ?_
     refine At.alloc ze66 rfl (fun b6 w19 F5 => ?_)
     have n_b4_b6 : b4 ≠ b6 := Nat.ne_of_lt (F5.lt hb4)
     have gb6 := F5.ge hB
     replace hb4 := F5.old hb4
     replace hOd := hOd.fresh F5
     replace hXp1 := Xs.fresh hXp1 F5
     have hb6 : w19.heap[b6]? = some (.cells #[zS, zN] 66) := F5.new
     replace hB := F5.below' hB
     refine At.storeAll rfl rfl hb6 (sz66.trans (congrArg some ((((Xs.one hXp1)).dat hu)).size.symm)) ((((Xs.one hXp1)).dat hu)).size.symm ((((Xs.one hXp1)).dat hu)).one (fun w20 S3 => ?_)
     replace hb4 := S3.other hb4 n_b4_b6
     replace hOd := hOd.set S3 (hOd.neT hb6 rfl)
     replace hXp1 := Xs.set hXp1 S3 (by simp)
     replace hb6 : w20.heap[b6]? = some (.cells u.cs 66) := S3.new
     replace hB := S3.below' hB gb6
     refine At.ops0 ?_
     refine At.thenN ?_
     refine At.seq ?_
     have hbb7 : ((!decide (u.nm = (bs (([68] : List UInt8) ++ (dgs n)))))) = false := by simp [f1, f2, f4, f5]
     have hbb8 : ((!decide ((u.cons.length : Int) = 1))) = false := by simp [f1, f2, f4, f5]
     have hle2 : 1 ≤ (([68] : List UInt8) ++ (dgs n)).length := by first | omega | (simp; done) | (simp; omega)
     have hbb9 : ((!decide (o.nm = (bs (([67] : List UInt8) ++ ((([68] : List UInt8) ++ (dgs n)).drop 1)))))) = false := by simp [f1, f2, f4, f5]
     have hbb10 : ((!decide ((o.fields.length : Int) = 2))) = false := by simp [f1, f2, f4, f5]
     refine At.drawG (n := 47) mixed (by kernel_rfl) rfl (PanicOk.then (PanicOk.block (PanicOk.then (PanicOk.then (PanicOk.block (PanicOk.then PanicOk.body)))))) ?_
     have hB := Below.drewB hB
     have hb4 : _ := (show w20.drew.heap[b4]? = _ from hb4)
     have hb6 : _ := (show w20.drew.heap[b6]? = _ from hb6)
     have hOd := hOd.drew
     have hXp1 := Xs.drew hXp1
     refine At.wpcL (tf 0 47) (by kernel_rfl) ?_
     refine At.wpcS (i := 0) (d := 166) (.pointer (some ⟨b6, 0 + 0, none⟩)) (by kernel_rfl) rfl rfl rfl (fun Lx => ?_) ?_
     ·skip
      refine At.fieldAddr rfl fo66_0 rfl ?_
      refine At.ops0 ?_
      exact fun a ha => ⟨ha, rfl⟩
     refine At.wpcL (tf 1 47) (by kernel_rfl) ?_
     refine At.wpcS (i := 1) (d := 167) (.string u.nm) (by kernel_rfl) rfl rfl rfl (fun Lx => ?_) ?_
     ·skip
      refine At.load rfl (Ld.ownCell ag9 hb6 ((((Xs.one hXp1)).dat hu)).c0) rfl ?_
      refine At.ops0 ?_
      exact fun a ha => ⟨ha, rfl⟩
     refine At.wpcL (tf 2 47) (by kernel_rfl) ?_
     refine At.wpcS (i := 2) (d := 168) (vd) (by kernel_rfl) rfl rfl rfl (fun Lx => ?_) ?_
     ·skip
      refine At.move rfl rfl ?_
      refine At.ops0 ?_
      exact fun a ha => ⟨ha, rfl⟩
     refine At.wpcL (tf 3 47) (by kernel_rfl) ?_
     refine At.wpcS (i := 3) (d := 169) (.int .i64 (j : Int)) (by kernel_rfl) rfl rfl rfl (fun Lx => ?_) ?_
     ·skip
      refine At.move rfl rfl ?_
      refine At.ops0 ?_
      exact fun a ha => ⟨ha, rfl⟩
     refine At.wpcL (tf 4 47) (by kernel_rfl) ?_
     refine At.wpcS (i := 4) (d := 170) (.pointer (some ⟨vBlock vd, vOff vd + j * 1, none⟩)) (by kernel_rfl) rfl rfl rfl (fun Lx => ?_) ?_
     ·skip
      refine At.indexAddr (i := j) rfl rfl (hOd.strs).ok (lt_of_some (dnm_at hn)) el29 sz9 rfl ?_
      refine At.ops0 ?_
      exact fun a ha => ⟨ha, rfl⟩
     refine At.wpcL (tf 5 47) (by kernel_rfl) ?_
     refine At.wpcS (i := 5) (d := 171) (.string (bs (([68] : List UInt8) ++ (dgs n)))) (by kernel_rfl) rfl rfl rfl (fun Lx => ?_) ?_
     ·skip
      refine At.load rfl (Ld.cell ag9 (cell_keep ((hOd.strs).get (dnm_at hn)) (Below.refl _ _))) rfl ?_
      refine At.ops0 ?_
      exact fun a ha => ⟨ha, rfl⟩
     refine At.wpcL (tf 6 47) (by kernel_rfl) ?_
     refine At.wpcS (i := 6) (d := 172) (.bool (!decide (u.nm = (bs (([68] : List UInt8) ++ (dgs n)))))) (by kernel_rfl) rfl rfl rfl (fun Lx => ?_) ?_
     ·skip
      refine At.neS rfl rfl rfl ?_
      refine At.ops0 ?_
      exact fun a ha => ⟨ha, rfl⟩
     refine At.set (d := 172) (u := .bool false) rfl (congrArg Value.bool hbb7) ?_
     refine At.wpcL (tf 7 47) (by kernel_rfl) ?_
     refine At.wpcS (i := 7) (d := 173) (.bool false) (by kernel_rfl) rfl rfl rfl (fun Lx => ?_) ?_
     ·skip
      refine At.move rfl rfl ?_
      refine At.ops0 ?_
      exact fun a ha => ⟨ha, rfl⟩
     refine At.wpcL (tf 8 47) (by kernel_rfl) ?_
     refine At.wpcS (i := 8) (d := 174) (.pointer (some ⟨b6, 0 + 1, none⟩)) (by kernel_rfl) rfl rfl rfl (fun Lx => ?_) ?_
     ·skip
      refine At.yes rfl rfl rfl rfl ?_
      refine At.fieldAddr rfl fo66_1 rfl ?_
      refine At.ops0 ?_
      exact fun a ha => ⟨ha, rfl⟩
     refine At.wpcL (tf 9 47) (by kernel_rfl) ?_
     refine At.wpcS (i := 9) (d := 175) (u.cv) (by kernel_rfl) rfl rfl rfl (fun Lx => ?_) ?_
     ·skip
      refine At.yes rfl rfl rfl rfl ?_
      refine At.load rfl (Ld.ownCell ag64 hb6 ((((Xs.one hXp1)).dat hu)).c1) rfl ?_
      refine At.ops0 ?_
      exact fun a ha => ⟨ha, rfl⟩
     refine At.wpcL (tf 10 47) (by kernel_rfl) ?_
     refine At.wpcS (i := 10) (d := 176) (.int .i64 (u.cons.length : Int)) (by kernel_rfl) rfl rfl rfl (fun Lx => ?_) ?_
     ·skip
      refine At.yes rfl rfl rfl rfl ?_
      refine At.lenSl rfl (((((Xs.one hXp1)).dat hu)).consAt).okL el64 rfl ?_
      refine At.ops0 ?_
      exact fun a ha => ⟨ha, rfl⟩
     refine At.wpcL (tf 11 47) (by kernel_rfl) ?_
     refine At.wpcS (i := 11) (d := 177) (.bool (!decide ((u.cons.length : Int) = 1))) (by kernel_rfl) rfl rfl rfl (fun Lx => ?_) ?_
     ·skip
      refine At.yes rfl rfl rfl rfl ?_
      refine At.neI rfl rfl rfl ?_
      refine At.ops0 ?_
      exact fun a ha => ⟨ha, rfl⟩
     refine At.set (d := 177) (u := .bool false) rfl (congrArg Value.bool hbb8) ?_
     refine At.wpcL (tf 12 47) (by kernel_rfl) ?_
     refine At.wpcS (i := 12) (d := 178) (.bool false) (by kernel_rfl) rfl rfl rfl (fun Lx => ?_) ?_
     ·skip
      refine At.pickF rfl rfl rfl ?_
      refine At.ops0 ?_
      exact fun a ha => ⟨ha, rfl⟩
     refine At.wpcL (tf 13 47) (by kernel_rfl) ?_
     refine At.wpcS (i := 13) (d := 179) (.bool false) (by kernel_rfl) rfl rfl rfl (fun Lx => ?_) ?_
     ·skip
      refine At.move rfl rfl ?_
      refine At.ops0 ?_
      exact fun a ha => ⟨ha, rfl⟩
     refine At.wpcL (tf 14 47) (by kernel_rfl) ?_
     refine At.wpcS (i := 14) (d := 180) (.pointer (some ⟨b6, 0 + 1, none⟩)) (by kernel_rfl) rfl rfl rfl (fun Lx => ?_) ?_
     ·skip
      refine At.yes rfl rfl rfl rfl ?_
      refine At.fieldAddr rfl fo66_1 rfl ?_
      refine At.ops0 ?_
      exact fun a ha => ⟨ha, rfl⟩
     refine At.wpcL (tf 15 47) (by kernel_rfl) ?_
     refine At.wpcS (i := 15) (d := 181) (u.cv) (by kernel_rfl) rfl rfl rfl (fun Lx => ?_) ?_
     ·skip
      refine At.yes rfl rfl rfl rfl ?_
      refine At.load rfl (Ld.ownCell ag64 hb6 ((((Xs.one hXp1)).dat hu)).c1) rfl ?_
      refine At.ops0 ?_
      exact fun a ha => ⟨ha, rfl⟩
     refine At.wpcL (tf 16 47) (by kernel_rfl) ?_
     refine At.wpcS (i := 16) (d := 182) (.pointer (some ⟨vBlock u.cv, vOff u.cv + 0 * 2, none⟩)) (by kernel_rfl) rfl rfl rfl (fun Lx => ?_) ?_
     ·skip
      refine At.yes rfl rfl rfl rfl ?_
      refine At.indexAddr (i := 0) rfl rfl (((((Xs.one hXp1)).dat hu)).consAt).okL (lt_of_some ho) el64 sz68 rfl ?_
      refine At.ops0 ?_
      exact fun a ha => ⟨ha, rfl⟩
     refine At.wpcL (tf 17 47) (by kernel_rfl) ?_
     refine At.wpcS (i := 17) (d := 183) (.pointer (some ⟨vBlock u.cv, vOff u.cv + 0 * 2 + 0, none⟩)) (by kernel_rfl) rfl rfl rfl (fun Lx => ?_) ?_
     ·skip
      refine At.yes rfl rfl rfl rfl ?_
      refine At.fieldAddr rfl fo68_0 rfl ?_
      refine At.ops0 ?_
      exact fun a ha => ⟨ha, rfl⟩
     refine At.wpcL (tf 18 47) (by kernel_rfl) ?_
     refine At.wpcS (i := 18) (d := 184) (.string o.nm) (by kernel_rfl) rfl rfl rfl (fun Lx => ?_) ?_
     ·skip
      refine At.yes rfl rfl rfl rfl ?_
      refine At.load rfl (Ld.cell ag9 (cell_keep (((((((Xs.one hXp1)).dat hu)).consAt).row ho).get ((((((Xs.one hXp1)).dat hu)).con ho)).c0) (Below.refl _ _))) rfl ?_
      refine At.ops0 ?_
      exact fun a ha => ⟨ha, rfl⟩
     refine At.wpcL (tf 19 47) (by kernel_rfl) ?_
     refine At.wpcS (i := 19) (d := 185) (vd) (by kernel_rfl) rfl rfl rfl (fun Lx => ?_) ?_
     ·skip
      refine At.yes rfl rfl rfl rfl ?_
      refine At.move rfl rfl ?_
      refine At.ops0 ?_
      exact fun a ha => ⟨ha, rfl⟩
     refine At.wpcL (tf 20 47) (by kernel_rfl) ?_
     refine At.wpcS (i := 20) (d := 186) (.int .i64 (j : Int)) (by kernel_rfl) rfl rfl rfl (fun Lx => ?_) ?_
     ·skip
      refine At.yes rfl rfl rfl rfl ?_
      refine At.move rfl rfl ?_
      refine At.ops0 ?_
      exact fun a ha => ⟨ha, rfl⟩
     refine At.wpcL (tf 21 47) (by kernel_rfl) ?_
     refine At.wpcS (i := 21) (d := 187) (.pointer (some ⟨vBlock vd, vOff vd + j * 1, none⟩)) (by kernel_rfl) rfl rfl rfl (fun Lx => ?_) ?_
     ·skip
      refine At.yes rfl rfl rfl rfl ?_
      refine At.indexAddr (i := j) rfl rfl (hOd.strs).ok (lt_of_some (dnm_at hn)) el29 sz9 rfl ?_
      refine At.ops0 ?_
      exact fun a ha => ⟨ha, rfl⟩
     refine At.wpcL (tf 22 47) (by kernel_rfl) ?_
     refine At.wpcS (i := 22) (d := 188) (.string (bs (([68] : List UInt8) ++ (dgs n)))) (by kernel_rfl) rfl rfl rfl (fun Lx => ?_) ?_
     ·skip
      refine At.yes rfl rfl rfl rfl ?_
      refine At.load rfl (Ld.cell ag9 (cell_keep ((hOd.strs).get (dnm_at hn)) (Below.refl _ _))) rfl ?_
      refine At.ops0 ?_
      exact fun a ha => ⟨ha, rfl⟩
     refine At.wpcL (tf 23 47) (by kernel_rfl) ?_
     refine At.wpcS (i := 23) (d := 189) (.string (bs ((([68] : List UInt8) ++ (dgs n)).drop 1))) (by kernel_rfl) rfl rfl rfl (fun Lx => ?_) ?_
     ·skip
      refine At.yes rfl rfl rfl rfl ?_
      refine At.dropB (l := (([68] : List UInt8) ++ (dgs n))) (h := 1) rfl rfl st9 hle2 rfl ?_
      refine At.ops0 ?_
      exact fun a ha => ⟨ha, rfl⟩
     refine At.wpcL (tf 24 47) (by kernel_rfl) ?_
     refine At.wpcS (i := 24) (d := 190) (.string (bs (([67] : List UInt8) ++ ((([68] : List UInt8) ++ (dgs n)).drop 1)))) (by kernel_rfl) rfl rfl rfl (fun Lx => ?_) ?_
     ·skip
      refine At.yes rfl rfl rfl rfl ?_
      refine At.catB (a := ([67] : List UInt8)) (b := ((([68] : List UInt8) ++ (dgs n)).drop 1)) rfl rfl rfl (by first | (have q := decS_len l1 i (by omega); have q2 := dgs_len20 (n := i) (by omega); (try simp only [List.length_append, List.length_cons, List.length_nil]); omega) | (simp only [List.length_append, List.length_cons, List.length_nil, List.length_drop]; omega)) ?_
      refine At.ops0 ?_
      exact fun a ha => ⟨ha, rfl⟩
     refine At.wpcL (tf 25 47) (by kernel_rfl) ?_
     refine At.wpcS (i := 25) (d := 191) (.bool (!decide (o.nm = (bs (([67] : List UInt8) ++ ((([68] : List UInt8) ++ (dgs n)).drop 1)))))) (by kernel_rfl) rfl rfl rfl (fun Lx => ?_) ?_
     ·skip
      refine At.yes rfl rfl rfl rfl ?_
      refine At.neS rfl rfl rfl ?_
      refine At.ops0 ?_
      exact fun a ha => ⟨ha, rfl⟩
     refine At.set (d := 191) (u := .bool false) rfl (congrArg Value.bool hbb9) ?_
     refine At.wpcL (tf 26 47) (by kernel_rfl) ?_
     refine At.wpcS (i := 26) (d := 192) (.bool false) (by kernel_rfl) rfl rfl rfl (fun Lx => ?_) ?_
     ·skip
      refine At.pickF rfl rfl rfl ?_
      refine At.ops0 ?_
      exact fun a ha => ⟨ha, rfl⟩
     refine At.wpcL (tf 27 47) (by kernel_rfl) ?_
     refine At.wpcS (i := 27) (d := 193) (.bool false) (by kernel_rfl) rfl rfl rfl (fun Lx => ?_) ?_
     ·skip
      refine At.move rfl rfl ?_
      refine At.ops0 ?_
      exact fun a ha => ⟨ha, rfl⟩
     refine At.wpcL (tf 28 47) (by kernel_rfl) ?_
     refine At.wpcS (i := 28) (d := 194) (.pointer (some ⟨b6, 0 + 1, none⟩)) (by kernel_rfl) rfl rfl rfl (fun Lx => ?_) ?_
     ·skip
      refine At.yes rfl rfl rfl rfl ?_
      refine At.fieldAddr rfl fo66_1 rfl ?_
      refine At.ops0 ?_
      exact fun a ha => ⟨ha, rfl⟩
     refine At.wpcL (tf 29 47) (by kernel_rfl) ?_
     refine At.wpcS (i := 29) (d := 195) (u.cv) (by kernel_rfl) rfl rfl rfl (fun Lx => ?_) ?_
     ·skip
      refine At.yes rfl rfl rfl rfl ?_
      refine At.load rfl (Ld.ownCell ag64 hb6 ((((Xs.one hXp1)).dat hu)).c1) rfl ?_
      refine At.ops0 ?_
      exact fun a ha => ⟨ha, rfl⟩
     refine At.wpcL (tf 30 47) (by kernel_rfl) ?_
     refine At.wpcS (i := 30) (d := 196) (.pointer (some ⟨vBlock u.cv, vOff u.cv + 0 * 2, none⟩)) (by kernel_rfl) rfl rfl rfl (fun Lx => ?_) ?_
     ·skip
      refine At.yes rfl rfl rfl rfl ?_
      refine At.indexAddr (i := 0) rfl rfl (((((Xs.one hXp1)).dat hu)).consAt).okL (lt_of_some ho) el64 sz68 rfl ?_
      refine At.ops0 ?_
      exact fun a ha => ⟨ha, rfl⟩
     refine At.wpcL (tf 31 47) (by kernel_rfl) ?_
     refine At.wpcS (i := 31) (d := 197) (.pointer (some ⟨vBlock u.cv, vOff u.cv + 0 * 2 + 1, none⟩)) (by kernel_rfl) rfl rfl rfl (fun Lx => ?_) ?_
     ·skip
      refine At.yes rfl rfl rfl rfl ?_
      refine At.fieldAddr rfl fo68_1 rfl ?_
      refine At.ops0 ?_
      exact fun a ha => ⟨ha, rfl⟩
     refine At.wpcL (tf 32 47) (by kernel_rfl) ?_
     refine At.wpcS (i := 32) (d := 198) (o.fv) (by kernel_rfl) rfl rfl rfl (fun Lx => ?_) ?_
     ·skip
      refine At.yes rfl rfl rfl rfl ?_
      refine At.load rfl (Ld.cell ag28 (cell_keep (((((((Xs.one hXp1)).dat hu)).consAt).row ho).get ((((((Xs.one hXp1)).dat hu)).con ho)).c1) (Below.refl _ _))) rfl ?_
      refine At.ops0 ?_
      exact fun a ha => ⟨ha, rfl⟩
     refine At.wpcL (tf 33 47) (by kernel_rfl) ?_
     refine At.wpcS (i := 33) (d := 199) (.int .i64 (o.fields.length : Int)) (by kernel_rfl) rfl rfl rfl (fun Lx => ?_) ?_
     ·skip
      refine At.yes rfl rfl rfl rfl ?_
      refine At.lenSl rfl (((((((Xs.one hXp1)).dat hu)).con ho)).fieldsAt).okL el28 rfl ?_
      refine At.ops0 ?_
      exact fun a ha => ⟨ha, rfl⟩
     refine At.wpcL (tf 34 47) (by kernel_rfl) ?_
     refine At.wpcS (i := 34) (d := 200) (.bool (!decide ((o.fields.length : Int) = 2))) (by kernel_rfl) rfl rfl rfl (fun Lx => ?_) ?_
     ·skip
      refine At.yes rfl rfl rfl rfl ?_
      refine At.neI rfl rfl rfl ?_
      refine At.ops0 ?_
      exact fun a ha => ⟨ha, rfl⟩
     refine At.set (d := 200) (u := .bool false) rfl (congrArg Value.bool hbb10) ?_
     refine At.wpcL (tf 35 47) (by kernel_rfl) ?_
     refine At.wpcS (i := 35) (d := 201) (.bool false) (by kernel_rfl) rfl rfl rfl (fun Lx => ?_) ?_
     ·skip
      refine At.pickF rfl rfl rfl ?_
      refine At.ops0 ?_
      exact fun a ha => ⟨ha, rfl⟩
     refine At.wpcL (tf 36 47) (by kernel_rfl) ?_
     refine At.wpcS (i := 36) (d := 202) (.bool false) (by kernel_rfl) rfl rfl rfl (fun Lx => ?_) ?_
     ·skip
      refine At.move rfl rfl ?_
      refine At.ops0 ?_
      exact fun a ha => ⟨ha, rfl⟩
     refine At.wpcL (tf 37 47) (by kernel_rfl) ?_
     refine At.wpcS (i := 37) (d := 203) (.pointer (some ⟨b6, 0 + 1, none⟩)) (by kernel_rfl) rfl rfl rfl (fun Lx => ?_) ?_
     ·skip
      refine At.yes rfl rfl rfl rfl ?_
      refine At.fieldAddr rfl fo66_1 rfl ?_
      refine At.ops0 ?_
      exact fun a ha => ⟨ha, rfl⟩
     refine At.wpcL (tf 38 47) (by kernel_rfl) ?_
     refine At.wpcS (i := 38) (d := 204) (u.cv) (by kernel_rfl) rfl rfl rfl (fun Lx => ?_) ?_
     ·skip
      refine At.yes rfl rfl rfl rfl ?_
      refine At.load rfl (Ld.ownCell ag64 hb6 ((((Xs.one hXp1)).dat hu)).c1) rfl ?_
      refine At.ops0 ?_
      exact fun a ha => ⟨ha, rfl⟩
     refine At.wpcL (tf 39 47) (by kernel_rfl) ?_
     refine At.wpcS (i := 39) (d := 205) (.pointer (some ⟨vBlock u.cv, vOff u.cv + 0 * 2, none⟩)) (by kernel_rfl) rfl rfl rfl (fun Lx => ?_) ?_
     ·skip
      refine At.yes rfl rfl rfl rfl ?_
      refine At.indexAddr (i := 0) rfl rfl (((((Xs.one hXp1)).dat hu)).consAt).okL (lt_of_some ho) el64 sz68 rfl ?_
      refine At.ops0 ?_
      exact fun a ha => ⟨ha, rfl⟩
     refine At.wpcL (tf 40 47) (by kernel_rfl) ?_
     refine At.wpcS (i := 40) (d := 206) (.pointer (some ⟨vBlock u.cv, vOff u.cv + 0 * 2 + 1, none⟩)) (by kernel_rfl) rfl rfl rfl (fun Lx => ?_) ?_
     ·skip
      refine At.yes rfl rfl rfl rfl ?_
      refine At.fieldAddr rfl fo68_1 rfl ?_
      refine At.ops0 ?_
      exact fun a ha => ⟨ha, rfl⟩
     refine At.wpcL (tf 41 47) (by kernel_rfl) ?_
     refine At.wpcS (i := 41) (d := 207) (o.fv) (by kernel_rfl) rfl rfl rfl (fun Lx => ?_) ?_
     ·skip
      refine At.yes rfl rfl rfl rfl ?_
      refine At.load rfl (Ld.cell ag28 (cell_keep (((((((Xs.one hXp1)).dat hu)).consAt).row ho).get ((((((Xs.one hXp1)).dat hu)).con ho)).c1) (Below.refl _ _))) rfl ?_
      refine At.ops0 ?_
      exact fun a ha => ⟨ha, rfl⟩
     refine At.wpcL (tf 42 47) (by kernel_rfl) ?_
     refine At.wpcS (i := 42) (d := 208) (.pointer (some ⟨vBlock o.fv, vOff o.fv + 1 * 6, none⟩)) (by kernel_rfl) rfl rfl rfl (fun Lx => ?_) ?_
     ·skip
      refine At.yes rfl rfl rfl rfl ?_
      refine At.indexAddr (i := 1) rfl rfl (((((((Xs.one hXp1)).dat hu)).con ho)).fieldsAt).okL (lt_of_some ht) el28 sz33 rfl ?_
      refine At.ops0 ?_
      exact fun a ha => ⟨ha, rfl⟩
     refine At.wpcL (tf 43 47) (by kernel_rfl) ?_
     refine At.wpcS (i := 43) (d := 209) (.pointer (some ⟨vBlock o.fv, vOff o.fv + 1 * 6 + 0, none⟩)) (by kernel_rfl) rfl rfl rfl (fun Lx => ?_) ?_
     ·skip
      refine At.yes rfl rfl rfl rfl ?_
      refine At.fieldAddr rfl fo33_0 rfl ?_
      refine At.ops0 ?_
      exact fun a ha => ⟨ha, rfl⟩
     refine At.wpcL (tf 44 47) (by kernel_rfl) ?_
     refine At.wpcS (i := 44) (d := 210) (.int .i64 t.k) (by kernel_rfl) rfl rfl rfl (fun Lx => ?_) ?_
     ·skip
      refine At.yes rfl rfl rfl rfl ?_
      refine At.load rfl (Ld.cell ag3 (cell_keep (((((((((Xs.one hXp1)).dat hu)).con ho)).fieldsAt).row ht).get ((((((((Xs.one hXp1)).dat hu)).con ho)).field ht)).c0) (Below.refl _ _))) rfl ?_
      refine At.ops0 ?_
      exact fun a ha => ⟨ha, rfl⟩
     refine At.wpcL (tf 45 47) (by kernel_rfl) ?_
     refine At.wpcS (i := 45) (d := 211) (.bool (!decide (t.k = 3))) (by kernel_rfl) rfl rfl rfl (fun Lx => ?_) ?_
     ·skip
      refine At.yes rfl rfl rfl rfl ?_
      refine At.neI rfl rfl rfl ?_
      refine At.ops0 ?_
      exact fun a ha => ⟨ha, rfl⟩
     refine At.wpcL (tf 46 47) (by kernel_rfl) ?_
     refine At.wpcS (i := 46) (d := 212) (.bool (!decide (t.k = 3))) (by kernel_rfl) rfl rfl rfl (fun Lx => ?_) ?_
     ·skip
      refine At.pickF rfl rfl rfl ?_
      refine At.ops0 ?_
      exact fun a ha => ⟨ha, rfl⟩
     refine At.wpcZ ?_
     refine At.thenN ?_
     have hb : ((!decide (t.k = 3))) = false := by simp [f1, f2, f4, f5, f7]
     refine At.set (d := 212) (u := .bool false) rfl (congrArg Value.bool hb) ?_
     refine At.condF rfl ?_
     refine At.skip ?_
     refine At.inN ?_
     refine At.thenN ?_
     refine At.region ?_
     refine At.move rfl rfl ?_
     refine At.addI rfl rfl rfl (by first | omega | (simp; done) | (simp; omega)) ?_
     refine At.assign rfl rfl ?_
     refine At.ops0 ?_
     refine At.thenN ?_
     exact fun act_ hact_ => ⟨(j + 1), hact_.sub (Sub.cons rfl (Sub.cons rfl (Sub.cons rfl (Sub.cons rfl Sub.nil)))), ⟨hB, hb4, hOd, (Xs.weaken (M' := [some b4]) hXp1 (SubM.cons (.tail _ (.head _)) SubM.nil)), (by omega)⟩, by first | omega | (dsimp only; omega)⟩
    ·skip
     have hc4' := of_decide_eq_false hc4
     refine At.exit ?_
     refine At.thenE ?_
     refine At.thenE ?_
     refine At.inE ?_
     refine At.thenN ?_
     refine At.seq ?_
     refine At.region ?_
     refine At.move rfl rfl ?_
     refine At.assign rfl rfl ?_
     refine At.ops0 ?_
     refine At.thenN ?_
     refine At.retc ?_
     refine At.doneR (ResV.tmp rfl ResV.nil) ?_
     exact ⟨rfl, hB⟩
end Go.Proofs.Ytkjmjnddanhapaa
