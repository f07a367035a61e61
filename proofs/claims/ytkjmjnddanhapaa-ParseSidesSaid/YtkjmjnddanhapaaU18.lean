/-
 The walk of ParseSides. Written by a program of ours.
-/
import Derived.Test.YtkjmjnddanhapaaU17
set_option linter.unusedVariables false
set_option linter.unusedSimpArgs false
namespace Go.Proofs.Ytkjmjnddanhapaa
open Go.RowKit
theorem en12 : entB Try.prog 12 = true := by kernel_rfl
theorem min_lit (a b : Nat) : (if (b : Int) < (a : Int) then (b : Int) else (a : Int)) = ((min a b : Nat) : Int) := by split <;> omega
theorem vvI_of {l : List Int} {i : Nat} {u : Int} (h : l[i]? = some u) : bits .and .i64 u 65535 = (vvI l i : Int) := by rw [(vvI_lt l i).1, List.getD_eq_getElem?_getD, h]; rfl
theorem sgI_of {l : List Int} {i : Nat} {u : Int} {q : Nat} (h0 : 0 < i) (h : l[i - 1]? = some u) (hq : (bits .and .i64 u 65535).tmod ((3 : Nat) : Int) = (q : Int)) : sgI l i = q := by
 have hq' : (bits .and .i64 u 65535).tmod 3 = (q : Int) := hq
 unfold sgI; rw [if_pos ⟨h0, lt_of_some h⟩, List.getD_eq_getElem?_getD, h]; simp [hq']
theorem sgI_no {l : List Int} {i : Nat} (h : ¬ (0 : Int) < (i : Int) ∨ ¬ ((i : Int) - 1) < (l.length : Int)) : sgI l i = 0 := by unfold sgI; rw [if_neg (by omega)]
theorem finI_range {st : S3} (h1 : 0 ≤ st.1 ∧ st.1 < 1000003) (h2 : 0 ≤ st.2.1 ∧ st.2.1 < 1000003) : 0 ≤ finI st ∧ finI st < 1000003 := by
 unfold finI; split <;> exact ⟨Int.tmod_nonneg _ (by omega), Int.tmod_lt_of_pos _ (by decide)⟩
theorem stI_range (l1 l2 : List Int) : ∀ i, (0 ≤ (stI l1 l2 i).1 ∧ (stI l1 l2 i).1 < 1000003) ∧ (0 ≤ (stI l1 l2 i).2.1 ∧ (stI l1 l2 i).2.1 < 1000003) := by
 intro i
 induction i with
 | zero => exact ⟨by show (0 : Int) ≤ 0 ∧ (0 : Int) < 1000003; decide, by show (0 : Int) ≤ 0 ∧ (0 : Int) < 1000003; decide⟩
 | succ i ih =>
  have hv := (vvI_lt l1 i).2
  rw [stI, stpI]
  split
  ·exact ⟨ih.1, Int.tmod_nonneg _ (Int.mul_nonneg ih.2.1 (by omega)), Int.tmod_lt_of_pos _ (by decide)⟩
  ·exact ⟨finI_range ih.1 ih.2, by show 0 ≤ (vvI l1 i : Int) ∧ (vvI l1 i : Int) < 1000003; omega⟩
theorem stI_mul {l1 l2 : List Int} {i : Nat} (h : (0 : Int) < (i : Int) ∧ ((sgI l2 i : Nat) : Int) = 2) : stI l1 l2 (i + 1) = ((stI l1 l2 i).1, ((stI l1 l2 i).2.1 * (vvI l1 i : Int)).tmod 1000003, (stI l1 l2 i).2.2) := by rw [stI, stpI, if_pos (by omega)]
theorem stI_add {l1 l2 : List Int} {i : Nat} (h : ¬ (0 : Int) < (i : Int) ∨ ¬ ((sgI l2 i : Nat) : Int) = 2) : stI l1 l2 (i + 1) = (finI (stI l1 l2 i), (vvI l1 i : Int), (decide ((0 : Int) < (i : Int)) && decide (((sgI l2 i : Nat) : Int) = 1))) := by
 rw [stI, stpI, if_neg (by omega)]
 congr 2
 by_cases h1 : 0 < i <;> by_cases h2 : sgI l2 i = 1 <;> simp [h1, h2] <;> omega
theorem sg_at {k : Nat} {u : ByteArray} (h : ([(⟨#[43]⟩ : ByteArray), (⟨#[45]⟩ : ByteArray), (⟨#[42]⟩ : ByteArray)])[k]? = some u) : u = bs (sgB k) := by
 rcases k with _ | _ | _ | k <;> first | (injection h with h; rw [← h]; rfl) | cases h
theorem sides_any (m : Int) (v1 : Value) (l1 : List Int) (v2 : Value) (l2 : List Int) (w : World) (hv1 : IntsAt w v1 l1) (hv2 : IntsAt w v2 l2) (hm : w.cell? ⟨0, 0, none⟩ = some (.int .i64 m)) :
  Calls Try.prog 5 ([v1, v2] : List Value).toArray w fun e w' => e = .returned (.bool true) ∧ Below w.heap.size w w' := by
 have hB := Below.refl w.heap.size w
 refine At.enter (N := 120) Try.func5 rfl rfl (by simp) [(0, v1), (1, v2)] (by simp) ?_
 refine At.seq ?_
 refine At.region ?_
 refine At.assign rfl rfl ?_
 refine At.ops0 ?_
 refine At.thenN ?_
 refine At.seq ?_
 refine At.region ?_
 refine At.call en12 rfl rfl (shown_any m _ (cell_keep hm hB)) (fun e w1 hR => ?_)
 obtain ⟨rfl, hbl1⟩ := hR
 refine ⟨_, rfl, ?_⟩
 replace hB := Below.andThen hB hbl1
 refine At.assign rfl rfl ?_
 refine At.ops0 ?_
 refine At.thenN ?_
 refine At.seq ?_
 refine At.region ?_
 refine At.move rfl rfl ?_
 refine At.lenSl rfl hv1.ok el48 rfl ?_
 refine At.minI rfl rfl rfl ?_
 refine At.set (d := 21) (u := .int .i64 (((min l1.length 30) : Nat) : Int)) rfl (congrArg (Value.int .i64) (min_lit _ _)) ?_
 refine At.assign rfl rfl ?_
 refine At.ops0 ?_
 refine At.thenN ?_
 refine At.seq ?_
 refine At.seq ?_
 refine At.region ?_
 refine At.move rfl rfl ?_
 refine At.eqI rfl rfl rfl ?_
 refine At.ops0 ?_
 refine At.thenN ?_
 refine At.cond (b := decide ((((min l1.length 30) : Nat) : Int) = 0)) rfl (fun hc1 => ?_) (fun hc1 => ?_)
 ·skip
  have hc1' := of_decide_eq_true hc1
  refine At.seq ?_
  refine At.region ?_
  refine At.move rfl rfl ?_
  refine At.assign rfl rfl ?_
  refine At.ops0 ?_
  refine At.thenN ?_
  refine At.retc ?_
  refine At.thenR ?_
  refine At.doneR (ResV.tmp rfl ResV.nil) ?_
  exact ⟨congrArg (fun b => Ending.returned (.bool b)) (by first | rfl | simp), hB⟩
 ·skip
  have hc1' := of_decide_eq_false hc1
  refine At.skip ?_
  refine At.thenN ?_
  refine At.seq ?_
  refine At.region ?_
  refine At.buildSlice (xs := [.const (.string (⟨#[43]⟩ : ByteArray)), .const (.string (⟨#[45]⟩ : ByteArray)), .const (.string (⟨#[42]⟩ : ByteArray))]) rfl rfl el29 sz9 ze9 (by intro v hv; simp only [List.mem_cons, List.not_mem_nil, or_false] at hv; rcases hv with rfl | rfl | rfl <;> first | rfl | simp [Value.cells, Value.cells]) rfl (by decide) rfl (fun b1 w2 F1 => ?_)
  have gb1 := F1.ge hB
  have hb1 : w2.heap[b1]? = some (.cells #[.string (⟨#[43]⟩ : ByteArray), .string (⟨#[45]⟩ : ByteArray), .string (⟨#[42]⟩ : ByteArray)] 9) := F1.new
  replace hB := F1.below' hB
  refine At.assign rfl rfl ?_
  refine At.ops0 ?_
  refine At.thenN ?_
  refine At.seq ?_
  refine At.region ?_
  refine At.assign rfl rfl ?_
  refine At.ops0 ?_
  refine At.thenN ?_
  refine At.seq ?_
  refine At.region ?_
  refine At.assign rfl rfl ?_
  refine At.ops0 ?_
  refine At.thenN ?_
  refine At.seq ?_
  refine At.region ?_
  refine At.assign rfl rfl ?_
  refine At.ops0 ?_
  refine At.thenN ?_
  refine At.seq ?_
  refine At.region ?_
  refine At.assign rfl rfl ?_
  refine At.ops0 ?_
  refine At.thenN ?_
  refine At.seq ?_
  refine At.seq ?_
  refine At.region ?_
  refine At.assign rfl rfl ?_
  refine At.ops0 ?_
  refine At.thenN ?_
  refine At.block ?_
  refine At.loop (Nat) (fun i => [(0, v1), (1, v2), (5, .bool true), (6, .int .i64 (((min l1.length 30) : Nat) : Int)), (7, (.slice (some ⟨b1, 0, none⟩) 3 3)), (8, .string (bs (sidS l1 l2 i))), (9, .int .i64 ((stI l1 l2 i).1)), (10, .int .i64 ((stI l1 l2 i).2.1)), (11, .bool ((stI l1 l2 i).2.2)), (12, .int .i64 (i : Int))]) (fun i w3 => Below w.heap.size w w3 ∧ w3.heap[b1]? = some (.cells #[.string (⟨#[43]⟩ : ByteArray), .string (⟨#[45]⟩ : ByteArray), .string (⟨#[42]⟩ : ByteArray)] 9) ∧ (i ≤ min l1.length 30)) (fun i => (min l1.length 30) - i) (0 : Nat) (Sub.cons rfl (Sub.cons rfl (Sub.cons rfl (Sub.cons rfl (Sub.cons rfl (Sub.cons rfl (Sub.cons rfl (Sub.cons rfl (Sub.cons rfl (Sub.cons rfl Sub.nil)))))))))) ⟨hB, hb1, (by omega)⟩ (fun i w3 hI => ?_)
  clear hB hb1
  obtain ⟨hB, hb1, hi⟩ := hI
  show At _ _ [(0, v1), (1, v2), (5, .bool true), (6, .int .i64 (((min l1.length 30) : Nat) : Int)), (7, (.slice (some ⟨b1, 0, none⟩) 3 3)), (8, .string (bs (sidS l1 l2 i))), (9, .int .i64 ((stI l1 l2 i).1)), (10, .int .i64 ((stI l1 l2 i).2.1)), (11, .bool ((stI l1 l2 i).2.2)), (12, .int .i64 (i : Int))] _ _
  have hr := stI_range l1 l2 i; have hv : 0 ≤ (vvI l1 i : Int) ∧ (vvI l1 i : Int) < 1000003 := (by have := (vvI_lt l1 i).2; omega); have hsg := sgI_lt l2 i
  refine At.seq ?_
  refine At.seq ?_
  refine At.region ?_
  refine At.move rfl rfl ?_
  refine At.move rfl rfl ?_
  refine At.lss rfl rfl rfl ?_
  refine At.ops0 ?_
  refine At.thenN ?_
  refine At.cond (b := decide ((i : Int) < (((min l1.length 30) : Nat) : Int))) rfl (fun hc2 => ?_) (fun hc2 => ?_)
  ·skip
   have hc2' := of_decide_eq_true hc2
   refine At.skip ?_
   refine At.thenN ?_
   refine At.seq ?_
   refine At.block ?_
   refine At.seq ?_
   refine At.region ?_
   refine At.move rfl rfl ?_
   refine At.move rfl rfl ?_
   obtain ⟨u1, hu1⟩ := some_of_lt (l := l1) (i := i) (by first | omega | (simp; done) | (simp; omega))
   refine At.indexAddr (i := i) rfl rfl hv1.ok (lt_of_some hu1) el48 sz3 rfl ?_
   refine At.load rfl (Ld.cell ag3 (cell_keep ((hv1).get hu1) hB)) rfl ?_
   refine At.andI rfl rfl rfl ?_
   refine At.set (d := 35) (u := .int .i64 (vvI l1 i : Int)) rfl (congrArg (Value.int .i64) (vvI_of hu1)) ?_
   refine At.assign rfl rfl ?_
   refine At.ops0 ?_
   refine At.thenN ?_
   refine At.seq ?_
   refine At.region ?_
   refine At.assign rfl rfl ?_
   refine At.ops0 ?_
   refine At.thenN ?_
   refine At.seq ?_
   refine At.seq ?_
   refine At.region ?_
   refine At.join [(0, v1), (1, v2), (5, .bool true), (6, .int .i64 (((min l1.length 30) : Nat) : Int)), (7, (.slice (some ⟨b1, 0, none⟩) 3 3)), (8, .string (bs (sidS l1 l2 i))), (9, .int .i64 ((stI l1 l2 i).1)), (10, .int .i64 ((stI l1 l2 i).2.1)), (11, .bool ((stI l1 l2 i).2.2)), (12, .int .i64 (i : Int)), (13, .int .i64 (vvI l1 i : Int)), (14, .int .i64 0), (44, .bool (decide (0 < (i : Int)) && decide (((i : Int) - 1) < (l2.length : Int))))] (fun w' => w3 = w') ?_ (fun w4 hS => ?_)
   ·skip
    refine At.move rfl rfl ?_
    refine At.gtr rfl rfl rfl ?_
    refine At.move rfl rfl ?_
    refine At.cases (decide (0 < (i : Int))) (fun hg1 => ?_) (fun hg1 => ?_)
    ·skip
     refine At.set (d := 38) (u := .bool true) rfl (congrArg Value.bool hg1) ?_
     have hg1' := of_decide_eq_true hg1
     refine At.yes rfl rfl rfl rfl ?_
     refine At.move rfl rfl ?_
     refine At.yes rfl rfl rfl rfl ?_
     refine At.subI rfl rfl rfl (by first | omega | (simp; done) | (simp; omega)) ?_
     refine At.yes rfl rfl rfl rfl ?_
     refine At.move rfl rfl ?_
     refine At.yes rfl rfl rfl rfl ?_
     refine At.lenSl rfl hv2.ok el48 rfl ?_
     refine At.yes rfl rfl rfl rfl ?_
     refine At.lss rfl rfl rfl ?_
     refine At.pickT rfl rfl rfl ?_
     exact At.joined (Sub.cons rfl (Sub.cons rfl (Sub.cons rfl (Sub.cons rfl (Sub.cons rfl (Sub.cons rfl (Sub.cons rfl (Sub.cons rfl (Sub.cons rfl (Sub.cons rfl (Sub.cons rfl (Sub.cons rfl (Sub.cons (by show some (Value.bool (decide (((i : Int) - 1) < (l2.length : Int)))) = some (Value.bool (decide (0 < (i : Int)) && decide (((i : Int) - 1) < (l2.length : Int)))); rw [hg1]; rfl) Sub.nil))))))))))))) rfl
    ·skip
     refine At.set (d := 38) (u := .bool false) rfl (congrArg Value.bool hg1) ?_
     have hg1' := of_decide_eq_false hg1
     refine At.no rfl rfl rfl rfl rfl rfl rfl ?_
     refine At.no rfl rfl rfl rfl rfl rfl rfl ?_
     refine At.no rfl rfl rfl rfl rfl rfl rfl ?_
     refine At.no rfl rfl rfl rfl rfl rfl rfl ?_
     refine At.no rfl rfl rfl rfl rfl rfl rfl ?_
     refine At.pickF rfl rfl rfl ?_
     exact At.joined (Sub.cons rfl (Sub.cons rfl (Sub.cons rfl (Sub.cons rfl (Sub.cons rfl (Sub.cons rfl (Sub.cons rfl (Sub.cons rfl (Sub.cons rfl (Sub.cons rfl (Sub.cons rfl (Sub.cons rfl (Sub.cons (by show some (Value.bool false) = some (Value.bool (decide (0 < (i : Int)) && decide (((i : Int) - 1) < (l2.length : Int)))); rw [hg1]; rfl) Sub.nil))))))))))))) rfl
   ·skip
    subst hS
    refine At.thenN ?_
    refine At.joinC [(0, v1), (1, v2), (5, .bool true), (6, .int .i64 (((min l1.length 30) : Nat) : Int)), (7, (.slice (some ⟨b1, 0, none⟩) 3 3)), (8, .string (bs (sidS l1 l2 i))), (9, .int .i64 ((stI l1 l2 i).1)), (10, .int .i64 ((stI l1 l2 i).2.1)), (11, .bool ((stI l1 l2 i).2.2)), (12, .int .i64 (i : Int)), (13, .int .i64 (vvI l1 i : Int)), (14, .int .i64 ((sgI l2 i : Nat) : Int))] (fun w' => w3 = w') ?_ (fun w5 hS => ?_)
    ·skip
     refine At.cond (b := (decide (0 < (i : Int)) && decide (((i : Int) - 1) < (l2.length : Int)))) rfl (fun hc3 => ?_) (fun hc3 => ?_)
     ·skip
      have hc3' := hc3; simp only [Bool.and_eq_true, decide_eq_true_eq] at hc3'
      refine At.region ?_
      refine At.move rfl rfl ?_
      refine At.move rfl rfl ?_
      refine At.subI rfl rfl rfl (by first | omega | (simp; done) | (simp; omega)) ?_
      refine At.set (d := 47) (u := .int .i64 ((i - 1 : Nat) : Int)) rfl (congrArg (Value.int .i64) (by omega)) ?_
      obtain ⟨u2, hu2⟩ := some_of_lt (l := l2) (i := (i - 1 : Nat)) (by first | omega | (simp; done) | (simp; omega))
      refine At.indexAddr (i := (i - 1 : Nat)) rfl rfl hv2.ok (lt_of_some hu2) el48 sz3 rfl ?_
      refine At.load rfl (Ld.cell ag3 (cell_keep ((hv2).get hu2) hB)) rfl ?_
      refine At.andI rfl rfl rfl ?_
      refine At.remI rfl rfl (by first | omega | (simp; done) | (simp; omega)) rfl ?_
      obtain ⟨q1, hq1, lq1⟩ := and_mod u2 (k := 3) (by decide)
      refine At.set (d := 51) (u := .int .i64 (q1 : Int)) rfl (congrArg (Value.int .i64) hq1) ?_
      refine At.assign rfl rfl ?_
      refine At.ops0 ?_
      exact At.joinedC (Sub.cons rfl (Sub.cons rfl (Sub.cons rfl (Sub.cons rfl (Sub.cons rfl (Sub.cons rfl (Sub.cons rfl (Sub.cons rfl (Sub.cons rfl (Sub.cons rfl (Sub.cons rfl (Sub.cons (congrArg (fun n : Nat => some (Value.int .i64 (n : Int))) (sgI_of (by omega) hu2 hq1).symm) Sub.nil)))))))))))) rfl
     ·skip
      have hc3' := hc3; simp only [Bool.and_eq_false_iff, decide_eq_false_iff_not] at hc3'
      refine At.skip ?_
      exact At.joinedC (Sub.cons rfl (Sub.cons rfl (Sub.cons rfl (Sub.cons rfl (Sub.cons rfl (Sub.cons rfl (Sub.cons rfl (Sub.cons rfl (Sub.cons rfl (Sub.cons rfl (Sub.cons rfl (Sub.cons (by rw [sgI_no hc3']; rfl) Sub.nil)))))))))))) rfl
    ·skip
     subst hS
     refine At.thenN ?_
     refine At.seq ?_
     refine At.seq ?_
     refine At.region ?_
     refine At.move rfl rfl ?_
     refine At.gtr rfl rfl rfl ?_
     refine At.ops0 ?_
     refine At.thenN ?_
     refine At.joinC [(0, v1), (1, v2), (5, .bool true), (6, .int .i64 (((min l1.length 30) : Nat) : Int)), (7, (.slice (some ⟨b1, 0, none⟩) 3 3)), (9, .int .i64 ((stI l1 l2 i).1)), (10, .int .i64 ((stI l1 l2 i).2.1)), (11, .bool ((stI l1 l2 i).2.2)), (12, .int .i64 (i : Int)), (13, .int .i64 (vvI l1 i : Int)), (14, .int .i64 ((sgI l2 i : Nat) : Int)), (8, .string (bs ((sidS l1 l2 i) ++ (if 0 < i then sgB (sgI l2 i) else []))))] (fun w' => w3 = w') ?_ (fun w6 hS => ?_)
     ·skip
      refine At.cond (b := decide (0 < (i : Int))) rfl (fun hc4 => ?_) (fun hc4 => ?_)
      ·skip
       have hc4' := of_decide_eq_true hc4
       refine At.region ?_
       refine At.move rfl rfl ?_
       refine At.move rfl rfl ?_
       refine At.move rfl rfl ?_
       obtain ⟨u3, hu3⟩ := some_of_lt (l := [(⟨#[43]⟩ : ByteArray), (⟨#[45]⟩ : ByteArray), (⟨#[42]⟩ : ByteArray)]) (i := (sgI l2 i)) (by first | omega | (simp; done) | (simp; omega))
       refine At.indexAddr (i := (sgI l2 i)) rfl rfl ((StrsAt.own (ss := [(⟨#[43]⟩ : ByteArray), (⟨#[45]⟩ : ByteArray), (⟨#[42]⟩ : ByteArray)]) hb1 rfl (by decide) : StrsAt _ (.slice (some ⟨b1, 0, none⟩) 3 3) [(⟨#[43]⟩ : ByteArray), (⟨#[45]⟩ : ByteArray), (⟨#[42]⟩ : ByteArray)])).ok (lt_of_some hu3) el29 sz9 rfl ?_
       refine At.load rfl (Ld.cell ag9 (cell_keep (((StrsAt.own (ss := [(⟨#[43]⟩ : ByteArray), (⟨#[45]⟩ : ByteArray), (⟨#[42]⟩ : ByteArray)]) hb1 rfl (by decide) : StrsAt _ (.slice (some ⟨b1, 0, none⟩) 3 3) [(⟨#[43]⟩ : ByteArray), (⟨#[45]⟩ : ByteArray), (⟨#[42]⟩ : ByteArray)])).get hu3) (Below.refl _ _))) rfl ?_
       refine At.set (d := 58) (u := .string (bs (sgB (sgI l2 i)))) rfl (congrArg Value.string (sg_at hu3)) ?_
       refine At.catB (a := (sidS l1 l2 i)) (b := (sgB (sgI l2 i))) rfl rfl rfl (by first | (have q := sidS_len l1 l2 i; have q2 := dgs_len20 (n := vvI l1 i) (by omega); have q3 : (if 0 < i then sgB (sgI l2 i) else []).length ≤ 1 := (by split; (unfold sgB; split <;> decide); decide); have q4 : (sgB (sgI l2 i)).length ≤ 1 := (by unfold sgB; split <;> decide); (try simp only [List.length_append, List.length_cons, List.length_nil]); omega)) ?_
       refine At.assign rfl rfl ?_
       refine At.ops0 ?_
       exact At.joinedC (Sub.cons rfl (Sub.cons rfl (Sub.cons rfl (Sub.cons rfl (Sub.cons rfl (Sub.cons rfl (Sub.cons rfl (Sub.cons rfl (Sub.cons rfl (Sub.cons rfl (Sub.cons rfl (Sub.cons (congrArg (fun l => some (Value.string (bs l))) (show _ = ((sidS l1 l2 i) ++ (if 0 < i then sgB (sgI l2 i) else [])) by rw [if_pos (by omega)])) Sub.nil)))))))))))) rfl
      ·skip
       have hc4' := of_decide_eq_false hc4
       refine At.skip ?_
       exact At.joinedC (Sub.cons rfl (Sub.cons rfl (Sub.cons rfl (Sub.cons rfl (Sub.cons rfl (Sub.cons rfl (Sub.cons rfl (Sub.cons rfl (Sub.cons rfl (Sub.cons rfl (Sub.cons rfl (Sub.cons (congrArg (fun l => some (Value.string (bs l))) (show _ = ((sidS l1 l2 i) ++ (if 0 < i then sgB (sgI l2 i) else [])) by rw [if_neg (by omega), List.append_nil])) Sub.nil)))))))))))) rfl
     ·skip
      subst hS
      refine At.thenN ?_
      refine At.seq ?_
      refine At.region ?_
      refine At.move rfl rfl ?_
      refine At.move rfl rfl ?_
      refine At.call en16 rfl rfl (digits_any (vvI l1 i) _ (by omega)) (fun e w7 hR => ?_)
      obtain ⟨rfl, hbl2⟩ := hR
      refine ⟨_, rfl, ?_⟩
      replace hb1 := Below.old hbl2 hb1
      replace hB := Below.andThen hB hbl2
      refine At.catB (a := ((sidS l1 l2 i) ++ (if 0 < i then sgB (sgI l2 i) else []))) (b := (dgs (vvI l1 i))) rfl rfl rfl (by first | (have q := sidS_len l1 l2 i; have q2 := dgs_len20 (n := vvI l1 i) (by omega); have q3 : (if 0 < i then sgB (sgI l2 i) else []).length ≤ 1 := (by split; (unfold sgB; split <;> decide); decide); have q4 : (sgB (sgI l2 i)).length ≤ 1 := (by unfold sgB; split <;> decide); (try simp only [List.length_append, List.length_cons, List.length_nil]); omega)) ?_
      refine At.assign rfl rfl ?_
      refine At.ops0 ?_
      refine At.thenN ?_
      refine At.seq ?_
      refine At.seq ?_
      refine At.region ?_
      refine At.join [(0, v1), (1, v2), (5, .bool true), (6, .int .i64 (((min l1.length 30) : Nat) : Int)), (7, (.slice (some ⟨b1, 0, none⟩) 3 3)), (9, .int .i64 ((stI l1 l2 i).1)), (10, .int .i64 ((stI l1 l2 i).2.1)), (11, .bool ((stI l1 l2 i).2.2)), (12, .int .i64 (i : Int)), (13, .int .i64 (vvI l1 i : Int)), (14, .int .i64 ((sgI l2 i : Nat) : Int)), (8, .string (bs (((sidS l1 l2 i) ++ (if 0 < i then sgB (sgI l2 i) else [])) ++ (dgs (vvI l1 i))))), (69, .bool (decide (0 < (i : Int)) && decide (((sgI l2 i : Nat) : Int) = 2)))] (fun w' => w7 = w') ?_ (fun w8 hS => ?_)
      ·skip
       refine At.move rfl rfl ?_
       refine At.gtr rfl rfl rfl ?_
       refine At.move rfl rfl ?_
       refine At.cases (decide (0 < (i : Int))) (fun hg2 => ?_) (fun hg2 => ?_)
       ·skip
        refine At.set (d := 66) (u := .bool true) rfl (congrArg Value.bool hg2) ?_
        have hg2' := of_decide_eq_true hg2
        refine At.yes rfl rfl rfl rfl ?_
        refine At.move rfl rfl ?_
        refine At.yes rfl rfl rfl rfl ?_
        refine At.eqI rfl rfl rfl ?_
        refine At.pickT rfl rfl rfl ?_
        exact At.joined (Sub.cons rfl (Sub.cons rfl (Sub.cons rfl (Sub.cons rfl (Sub.cons rfl (Sub.cons rfl (Sub.cons rfl (Sub.cons rfl (Sub.cons rfl (Sub.cons rfl (Sub.cons rfl (Sub.cons rfl (Sub.cons (by show some (Value.bool (decide (((sgI l2 i : Nat) : Int) = 2))) = some (Value.bool (decide (0 < (i : Int)) && decide (((sgI l2 i : Nat) : Int) = 2))); rw [hg2]; rfl) Sub.nil))))))))))))) rfl
       ·skip
        refine At.set (d := 66) (u := .bool false) rfl (congrArg Value.bool hg2) ?_
        have hg2' := of_decide_eq_false hg2
        refine At.no rfl rfl rfl rfl rfl rfl rfl ?_
        refine At.no rfl rfl rfl rfl rfl rfl rfl ?_
        refine At.pickF rfl rfl rfl ?_
        exact At.joined (Sub.cons rfl (Sub.cons rfl (Sub.cons rfl (Sub.cons rfl (Sub.cons rfl (Sub.cons rfl (Sub.cons rfl (Sub.cons rfl (Sub.cons rfl (Sub.cons rfl (Sub.cons rfl (Sub.cons rfl (Sub.cons (by show some (Value.bool false) = some (Value.bool (decide (0 < (i : Int)) && decide (((sgI l2 i : Nat) : Int) = 2))); rw [hg2]; rfl) Sub.nil))))))))))))) rfl
      ·skip
       subst hS
       refine At.thenN ?_
       refine At.cond (b := (decide (0 < (i : Int)) && decide (((sgI l2 i : Nat) : Int) = 2))) rfl (fun hc5 => ?_) (fun hc5 => ?_)
       ·skip
        have hc5' := hc5; simp only [Bool.and_eq_true, decide_eq_true_eq] at hc5'
        refine At.seq ?_
        refine At.region ?_
        refine At.move rfl rfl ?_
        refine At.move rfl rfl ?_
        refine At.mul rfl rfl rfl ?_
        refine At.set (d := 72) (u := .int .i64 ((stI l1 l2 i).2.1 * (vvI l1 i : Int))) rfl (congrArg (Value.int .i64) (mul_id hr.2 hv)) ?_
        refine At.remI rfl rfl (by first | omega | (simp; done) | (simp; omega)) rfl ?_
        refine At.assign rfl rfl ?_
        refine At.ops0 ?_
        refine At.thenN ?_
        refine At.exit ?_
        refine At.thenE ?_
        refine At.inE ?_
        refine At.thenN ?_
        refine At.region ?_
        refine At.move rfl rfl ?_
        refine At.addI rfl rfl rfl (by first | omega | (simp; done) | (simp; omega)) ?_
        refine At.assign rfl rfl ?_
        refine At.ops0 ?_
        refine At.thenN ?_
        exact fun act_ hact_ => ⟨(i + 1), hact_.sub (Sub.cons rfl (Sub.cons rfl (Sub.cons rfl (Sub.cons rfl (Sub.cons rfl (Sub.cons rfl (Sub.cons (congrArg (fun st : S3 => some (Value.int .i64 st.1)) (stI_mul hc5')).symm (Sub.cons (congrArg (fun st : S3 => some (Value.int .i64 st.2.1)) (stI_mul hc5')).symm (Sub.cons (congrArg (fun st : S3 => some (Value.bool st.2.2)) (stI_mul hc5')).symm (Sub.cons rfl Sub.nil)))))))))), ⟨hB, hb1, (by omega)⟩, by first | omega | (dsimp only; omega)⟩
       ·skip
        have hc5' := hc5; simp only [Bool.and_eq_false_iff, decide_eq_false_iff_not] at hc5'
        refine At.skip ?_
        refine At.thenN ?_
        refine At.seq ?_
        refine At.seq ?_
        refine At.region ?_
        refine At.move rfl rfl ?_
        refine At.ops0 ?_
        refine At.thenN ?_
        refine At.joinC [(0, v1), (1, v2), (5, .bool true), (6, .int .i64 (((min l1.length 30) : Nat) : Int)), (7, (.slice (some ⟨b1, 0, none⟩) 3 3)), (12, .int .i64 (i : Int)), (13, .int .i64 (vvI l1 i : Int)), (14, .int .i64 ((sgI l2 i : Nat) : Int)), (8, .string (bs (((sidS l1 l2 i) ++ (if 0 < i then sgB (sgI l2 i) else [])) ++ (dgs (vvI l1 i))))), (9, .int .i64 (finI (stI l1 l2 i)))] (fun w' => w7 = w') ?_ (fun w9 hS => ?_)
        ·skip
         refine At.cond (b := (stI l1 l2 i).2.2) rfl (fun hc6 => ?_) (fun hc6 => ?_)
         ·skip
          refine At.region ?_
          refine At.move rfl rfl ?_
          refine At.move rfl rfl ?_
          refine At.subI rfl rfl rfl (by first | omega | (simp; done) | (simp; omega)) ?_
          refine At.addI rfl rfl rfl (by first | omega | (simp; done) | (simp; omega)) ?_
          refine At.remI rfl rfl (by first | omega | (simp; done) | (simp; omega)) rfl ?_
          refine At.assign rfl rfl ?_
          refine At.ops0 ?_
          exact At.joinedC (Sub.cons rfl (Sub.cons rfl (Sub.cons rfl (Sub.cons rfl (Sub.cons rfl (Sub.cons rfl (Sub.cons rfl (Sub.cons rfl (Sub.cons rfl (Sub.cons (congrArg (fun n : Int => some (Value.int .i64 n)) (show _ = finI (stI l1 l2 i) by unfold finI; rw [hc6]; rfl)) Sub.nil)))))))))) rfl
         ·skip
          refine At.region ?_
          refine At.move rfl rfl ?_
          refine At.move rfl rfl ?_
          refine At.addI rfl rfl rfl (by first | omega | (simp; done) | (simp; omega)) ?_
          refine At.remI rfl rfl (by first | omega | (simp; done) | (simp; omega)) rfl ?_
          refine At.assign rfl rfl ?_
          refine At.ops0 ?_
          exact At.joinedC (Sub.cons rfl (Sub.cons rfl (Sub.cons rfl (Sub.cons rfl (Sub.cons rfl (Sub.cons rfl (Sub.cons rfl (Sub.cons rfl (Sub.cons rfl (Sub.cons (congrArg (fun n : Int => some (Value.int .i64 n)) (show _ = finI (stI l1 l2 i) by unfold finI; rw [hc6]; rfl)) Sub.nil)))))))))) rfl
        ·skip
         subst hS
         refine At.thenN ?_
         refine At.seq ?_
         refine At.region ?_
         refine At.move rfl rfl ?_
         refine At.assign rfl rfl ?_
         refine At.ops0 ?_
         refine At.thenN ?_
         refine At.region ?_
         refine At.join [(0, v1), (1, v2), (5, .bool true), (6, .int .i64 (((min l1.length 30) : Nat) : Int)), (7, (.slice (some ⟨b1, 0, none⟩) 3 3)), (12, .int .i64 (i : Int)), (8, .string (bs (((sidS l1 l2 i) ++ (if 0 < i then sgB (sgI l2 i) else [])) ++ (dgs (vvI l1 i))))), (9, .int .i64 (finI (stI l1 l2 i))), (10, .int .i64 (vvI l1 i : Int)), (11, .bool (decide (0 < (i : Int)) && decide (((sgI l2 i : Nat) : Int) = 1)))] (fun w' => w7 = w') ?_ (fun w10 hS => ?_)
         ·skip
          refine At.move rfl rfl ?_
          refine At.gtr rfl rfl rfl ?_
          refine At.move rfl rfl ?_
          refine At.cases (decide (0 < (i : Int))) (fun hg3 => ?_) (fun hg3 => ?_)
          ·skip
           refine At.set (d := 87) (u := .bool true) rfl (congrArg Value.bool hg3) ?_
           have hg3' := of_decide_eq_true hg3
           refine At.yes rfl rfl rfl rfl ?_
           refine At.move rfl rfl ?_
           refine At.yes rfl rfl rfl rfl ?_
           refine At.eqI rfl rfl rfl ?_
           refine At.pickT rfl rfl rfl ?_
           refine At.assign rfl rfl ?_
           exact At.joined (Sub.cons rfl (Sub.cons rfl (Sub.cons rfl (Sub.cons rfl (Sub.cons rfl (Sub.cons rfl (Sub.cons rfl (Sub.cons rfl (Sub.cons rfl (Sub.cons (by show some (Value.bool (decide (((sgI l2 i : Nat) : Int) = 1))) = some (Value.bool (decide (0 < (i : Int)) && decide (((sgI l2 i : Nat) : Int) = 1))); rw [hg3]; rfl) Sub.nil)))))))))) rfl
          ·skip
           refine At.set (d := 87) (u := .bool false) rfl (congrArg Value.bool hg3) ?_
           have hg3' := of_decide_eq_false hg3
           refine At.no rfl rfl rfl rfl rfl rfl rfl ?_
           refine At.no rfl rfl rfl rfl rfl rfl rfl ?_
           refine At.pickF rfl rfl rfl ?_
           refine At.assign rfl rfl ?_
           exact At.joined (Sub.cons rfl (Sub.cons rfl (Sub.cons rfl (Sub.cons rfl (Sub.cons rfl (Sub.cons rfl (Sub.cons rfl (Sub.cons rfl (Sub.cons rfl (Sub.cons (by show some (Value.bool false) = some (Value.bool (decide (0 < (i : Int)) && decide (((sgI l2 i : Nat) : Int) = 1))); rw [hg3]; rfl) Sub.nil)))))))))) rfl
         ·skip
          subst hS
          refine At.inN ?_
          refine At.thenN ?_
          refine At.region ?_
          refine At.move rfl rfl ?_
          refine At.addI rfl rfl rfl (by first | omega | (simp; done) | (simp; omega)) ?_
          refine At.assign rfl rfl ?_
          refine At.ops0 ?_
          refine At.thenN ?_
          exact fun act_ hact_ => ⟨(i + 1), hact_.sub (Sub.cons rfl (Sub.cons rfl (Sub.cons rfl (Sub.cons rfl (Sub.cons rfl (Sub.cons rfl (Sub.cons (congrArg (fun st : S3 => some (Value.int .i64 st.1)) (stI_add hc5')).symm (Sub.cons (congrArg (fun st : S3 => some (Value.int .i64 st.2.1)) (stI_add hc5')).symm (Sub.cons (congrArg (fun st : S3 => some (Value.bool st.2.2)) (stI_add hc5')).symm (Sub.cons rfl Sub.nil)))))))))), ⟨hB, hb1, (by omega)⟩, by first | omega | (dsimp only; omega)⟩
  ·skip
   have hc2' := of_decide_eq_false hc2
   refine At.exit ?_
   refine At.thenE ?_
   refine At.thenE ?_
   refine At.inE ?_
   refine At.thenN ?_
   refine At.seq ?_
   refine At.seq ?_
   refine At.region ?_
   refine At.move rfl rfl ?_
   refine At.ops0 ?_
   refine At.thenN ?_
   refine At.joinC [(5, .bool true), (8, .string (bs (sidS l1 l2 i))), (9, .int .i64 (finI (stI l1 l2 i)))] (fun w' => w3 = w') ?_ (fun w11 hS => ?_)
   ·skip
    refine At.cond (b := (stI l1 l2 i).2.2) rfl (fun hc7 => ?_) (fun hc7 => ?_)
    ·skip
     refine At.region ?_
     refine At.move rfl rfl ?_
     refine At.move rfl rfl ?_
     refine At.subI rfl rfl rfl (by first | omega | (simp; done) | (simp; omega)) ?_
     refine At.addI rfl rfl rfl (by first | omega | (simp; done) | (simp; omega)) ?_
     refine At.remI rfl rfl (by first | omega | (simp; done) | (simp; omega)) rfl ?_
     refine At.assign rfl rfl ?_
     refine At.ops0 ?_
     exact At.joinedC (Sub.cons rfl (Sub.cons rfl (Sub.cons (congrArg (fun n : Int => some (Value.int .i64 n)) (show _ = finI (stI l1 l2 i) by unfold finI; rw [hc7]; rfl)) Sub.nil))) rfl
    ·skip
     refine At.region ?_
     refine At.move rfl rfl ?_
     refine At.move rfl rfl ?_
     refine At.addI rfl rfl rfl (by first | omega | (simp; done) | (simp; omega)) ?_
     refine At.remI rfl rfl (by first | omega | (simp; done) | (simp; omega)) rfl ?_
     refine At.assign rfl rfl ?_
     refine At.ops0 ?_
     exact At.joinedC (Sub.cons rfl (Sub.cons rfl (Sub.cons (congrArg (fun n : Int => some (Value.int .i64 n)) (show _ = finI (stI l1 l2 i) by unfold finI; rw [hc7]; rfl)) Sub.nil))) rfl
   ·skip
    subst hS
    refine At.thenN ?_
    refine At.seq ?_
    have him : i = min l1.length 30 := by omega
    have hpos : ¬ (min l1.length 30) = 0 := by omega
    obtain ⟨n, hn⟩ : ∃ n, i = n + 1 := ⟨i - 1, by omega⟩
    obtain ⟨T, hT, hV⟩ := sides_parse l1 l2 (n := n) (by omega)
    rw [← hn] at hT hV
    refine At.region ?_
    refine At.move rfl rfl ?_
    refine At.toBytes (l := (sidS l1 l2 i)) rfl st9 el22 ik5 (by have q := sidS_len l1 l2 i; omega) rfl (fun b2 cap1 w12 hgbb1 hbl3 hby1 => ?_)
    replace hb1 := Below.old hbl3 hb1
    replace hB := Below.andThen hB hbl3
    have hml1 : MLt w12.heap.size [some b1] := (MLt.blk hb1 (MLt.nil _))
    refine At.call en13 rfl rfl (parse_any (.slice (some ⟨b2, 0, none⟩) (sidS l1 l2 i).length cap1) (sidS l1 l2 i) m _ (BytesAt.keep hby1 (Below.refl _ _)) (cell_keep hm hB)) (fun e w13 hR => ?_)
    obtain ⟨pr1, rfl, hbl4, hpk1, hsh1, hpl1, hpb1⟩ := hR
    refine ⟨_, rfl, ?_⟩
    replace hb1 := Below.old hbl4 hb1
    replace hby1 := hby1.below hbl4
    replace hB := Below.andThen hB hbl4
    have hXp1 := Xs.of_new (B := 0) (M := [some b1]) (K := kPr) hpk1 (fun b hb => .inr (hpb1 b hb)) (fun _ _ => Nat.zero_le _) hml1
    clear hpk1 hpb1 hml1
    have hpr1 : parseR (sidS l1 l2 i) = (some ⟨[], [], T⟩, 0, 0) := hT
    refine At.set (d := 104) (u := .tuple #[.agg pr1.cs, zI, zI]) rfl (by rw [hpr1]) ?_
    refine At.move rfl rfl ?_
    refine At.extract rfl rfl rfl ?_
    refine At.extract rfl rfl rfl ?_
    refine At.extract rfl rfl rfl ?_
    refine At.alloc ze37 rfl (fun b3 w14 F2 => ?_)
    have n_b1_b3 : b1 ≠ b3 := Nat.ne_of_lt (F2.lt hb1)
    have gb3 := F2.ge hB
    replace hb1 := F2.old hb1
    replace hby1 := hby1.fresh F2
    replace hXp1 := Xs.fresh hXp1 F2
    have hb3 : w14.heap[b3]? = some (.cells #[zN, zN, zI, zI, zS, zS, zI, zN, zN, zI, zS, zI, zN, zN, zI, zN, zI, zI, zS, zI, zN, zN, zI] 37) := F2.new
    replace hB := F2.below' hB
    refine At.storeAll rfl rfl hb3 (sz37.trans (congrArg some ((Xs.one hXp1)).size.symm)) ((Xs.one hXp1)).size.symm ((Xs.one hXp1)).one (fun w15 S1 => ?_)
    replace hb1 := S1.other hb1 n_b1_b3
    clear hby1
    replace hXp1 := Xs.set hXp1 S1 (by simp)
    replace hb3 : w15.heap[b3]? = some (.cells pr1.cs 37) := S1.new
    replace hB := S1.below' hB gb3
    refine At.assign rfl rfl ?_
    refine At.assign rfl rfl ?_
    refine At.ops0 ?_
    refine At.thenN ?_
    refine At.seq ?_
    refine At.region ?_
    refine At.move rfl rfl ?_
    refine At.move rfl rfl ?_
    refine At.yes rfl rfl rfl rfl ?_
    refine At.move rfl rfl ?_
    refine At.yes rfl rfl rfl rfl ?_
    refine At.eqI rfl rfl rfl ?_
    refine At.set (d := 111) (u := .bool true) rfl (congrArg Value.bool (by simp)) ?_
    refine At.pickT rfl rfl rfl ?_
    refine At.move rfl rfl ?_
    refine At.yes rfl rfl rfl rfl ?_
    refine At.fieldAddr rfl fo37_2 rfl ?_
    refine At.yes rfl rfl rfl rfl ?_
    refine At.load rfl (Ld.ownPart ag35 (sz35.trans (congrArg some (((Xs.one hXp1)).bodyOk).size.symm)) hb3 ((Xs.one hXp1)).bodyCs) rfl ?_
    refine At.yes rfl rfl rfl rfl ?_
    refine At.call en17 rfl rfl (value_any hV pr1.body _ (show shT pr1.body = T from congrArg SPr.body (show shPr pr1 = (⟨[], [], T⟩ : SPr) by rw [hsh1, hpr1]; rfl)) ((Xs.one hXp1)).bodyOk) (fun e w16 hR => ?_)
    obtain ⟨rfl, hbl5⟩ := hR
    refine ⟨_, rfl, ?_⟩
    replace hb1 := Below.old hbl5 hb1
    replace hb3 := Below.old hbl5 hb3
    replace hXp1 := Xs.below hXp1 hbl5
    replace hB := Below.andThen hB hbl5
    refine At.yes rfl rfl rfl rfl ?_
    refine At.move rfl rfl ?_
    refine At.yes rfl rfl rfl rfl ?_
    refine At.eqI rfl rfl rfl ?_
    refine At.set (d := 118) (u := .bool true) rfl (congrArg Value.bool (by simp)) ?_
    refine At.pickT rfl rfl rfl ?_
    refine At.assign rfl rfl ?_
    refine At.ops0 ?_
    refine At.thenN ?_
    refine At.retc ?_
    refine At.doneR (ResV.tmp rfl ResV.nil) ?_
    exact ⟨congrArg (fun b => Ending.returned (.bool b)) (by first | rfl | simp), hB⟩
end Go.Proofs.Ytkjmjnddanhapaa
