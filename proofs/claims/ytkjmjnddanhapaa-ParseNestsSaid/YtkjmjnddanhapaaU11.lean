/-
 The walk of ParseNests. Written by a program of ours.
-/
import Derived.Test.YtkjmjnddanhapaaN11
import Derived.Test.YtkjmjnddanhapaaU10
set_option linter.unusedVariables false
set_option linter.unusedSimpArgs false
namespace Go.Proofs.Ytkjmjnddanhapaa
open Go.RowKit
theorem en12 : entB Try.prog 12 = true := by kernel_rfl
theorem beg_at {k : Nat} {u : ByteArray} (h : ([(⟨#[102, 117, 110, 32, 120, 32, 45, 62, 32]⟩ : ByteArray), (⟨#[108, 101, 116, 32, 120, 32, 61, 32, 49, 32, 105, 110, 32]⟩ : ByteArray), (⟨#[105, 102, 32, 116, 114, 117, 101, 32, 116, 104, 101, 110, 32, 48, 32, 101, 108, 115, 101, 32]⟩ : ByteArray), (⟨#[33, 32]⟩ : ByteArray), (⟨#[112, 114, 105, 110, 116, 32]⟩ : ByteArray), (⟨#[67, 40]⟩ : ByteArray), (⟨#[103, 101, 116, 33, 32]⟩ : ByteArray)])[k]? = some u) : u = bs (begK k) := by
 rcases k with _ | _ | _ | _ | _ | _ | _ | k <;> first | (injection h with h; rw [← h]; rfl) | cases h
theorem nest_five {k i : Nat} (h : (k : Int) = 5) : begK k ++ nestS k i ++ [41] = nestS k (i + 1) := by rw [nestS, if_pos (by omega)]
theorem nest_else {k i : Nat} (h : ¬ (k : Int) = 5) : begK k ++ nestS k i = nestS k (i + 1) := by rw [nestS, if_neg (by omega)]
theorem beg_len (k : Nat) : (begK k).length ≤ 20 := by unfold begK; split <;> decide
theorem nest_bad {k n : Nat} {p : Pr} (hk : k < 7) (hn : n < 221) (h : 199 < n) : (parseR (nestS k n)).2.2 = 6 ∧ (shPr p = (parseR (nestS k n)).1.getD zP → p.body.k = 0) := by
 obtain ⟨a, ha⟩ := (nest_parse (n := n) hk (by omega)).2 h
 refine ⟨by rw [ha], fun hp => ?_⟩
 rw [ha] at hp
 exact (shT_k p.body (show shT p.body = zT from congrArg SPr.body hp)).1
theorem nest_good {k n : Nat} {p : Pr} (hk : k < 7) (hn : n < 221) (h : ¬ 199 < n) : (parseR (nestS k n)).2.2 = 0 ∧ (shPr p = (parseR (nestS k n)).1.getD zP → ((min 1000 (dS (shT p.body)) : Nat) : Int) = (n : Int) + 1) := by
 obtain ⟨x, ha, hd⟩ := (nest_parse (n := n) hk (by omega)).1 (by omega)
 refine ⟨by rw [ha], fun hp => ?_⟩
 rw [ha] at hp
 have hb : shT p.body = x := congrArg SPr.body hp
 rw [hb, hd]; omega
theorem nests_any (a0 a1 m : Int) (w : World) (hm : w.cell? ⟨0, 0, none⟩ = some (.int .i64 m)) :
  Calls Try.prog 8 ([.int .i64 a0, .int .i64 a1] : List Value).toArray w fun e w' => e = .returned (.bool true) ∧ Below w.heap.size w w' := by
 have hB := Below.refl w.heap.size w
 refine At.enter (N := 69) Try.func8 rfl rfl (by simp) [(0, .int .i64 a0), (1, .int .i64 a1)] (by simp) ?_
 refine At.seq ?_
 refine At.region ?_
 refine At.assign rfl rfl ?_
 refine At.ops0 ?_
 refine At.thenN ?_
 refine At.seq ?_
 refine At.region ?_
 refine At.call en12 rfl rfl (shown_any m _ (cell_keep hm hB)) (fun e w1 hR => ?_)
 obtain ⟨rfl, hbl1⟩ := hR
 refine ⟨_, rfl, ?_⟩
 replace hB := Below.andThen hB hbl1
 refine At.assign rfl rfl ?_
 refine At.ops0 ?_
 refine At.thenN ?_
 refine At.seq ?_
 refine At.region ?_
 refine At.move rfl rfl ?_
 refine At.andI rfl rfl rfl ?_
 refine At.remI rfl rfl (by first | omega | (simp; omega)) rfl ?_
 obtain ⟨q1, hq1, lq1⟩ := and_mod a0 (k := 221) (by decide)
 refine At.set (d := 16) (u := .int .i64 (q1 : Int)) rfl (congrArg (Value.int .i64) hq1) ?_
 refine At.assign rfl rfl ?_
 refine At.ops0 ?_
 refine At.thenN ?_
 refine At.seq ?_
 refine At.region ?_
 refine At.buildSlice (xs := [.const (.string (⟨#[102, 117, 110, 32, 120, 32, 45, 62, 32]⟩ : ByteArray)), .const (.string (⟨#[108, 101, 116, 32, 120, 32, 61, 32, 49, 32, 105, 110, 32]⟩ : ByteArray)), .const (.string (⟨#[105, 102, 32, 116, 114, 117, 101, 32, 116, 104, 101, 110, 32, 48, 32, 101, 108, 115, 101, 32]⟩ : ByteArray)), .const (.string (⟨#[33, 32]⟩ : ByteArray)), .const (.string (⟨#[112, 114, 105, 110, 116, 32]⟩ : ByteArray)), .const (.string (⟨#[67, 40]⟩ : ByteArray)), .const (.string (⟨#[103, 101, 116, 33, 32]⟩ : ByteArray))]) rfl rfl el29 sz9 ze9 (by intro v hv; simp only [List.mem_cons, List.not_mem_nil, or_false] at hv; rcases hv with rfl | rfl | rfl | rfl | rfl | rfl | rfl <;> first | rfl | simp [Value.cells, Value.cells]) rfl (by decide) rfl (fun b1 w2 F1 => ?_)
 have gb1 := F1.ge hB
 have hb1 : w2.heap[b1]? = some (.cells #[.string (⟨#[102, 117, 110, 32, 120, 32, 45, 62, 32]⟩ : ByteArray), .string (⟨#[108, 101, 116, 32, 120, 32, 61, 32, 49, 32, 105, 110, 32]⟩ : ByteArray), .string (⟨#[105, 102, 32, 116, 114, 117, 101, 32, 116, 104, 101, 110, 32, 48, 32, 101, 108, 115, 101, 32]⟩ : ByteArray), .string (⟨#[33, 32]⟩ : ByteArray), .string (⟨#[112, 114, 105, 110, 116, 32]⟩ : ByteArray), .string (⟨#[67, 40]⟩ : ByteArray), .string (⟨#[103, 101, 116, 33, 32]⟩ : ByteArray)] 9) := F1.new
 replace hB := F1.below' hB
 refine At.assign rfl rfl ?_
 refine At.ops0 ?_
 refine At.thenN ?_
 refine At.seq ?_
 refine At.region ?_
 refine At.move rfl rfl ?_
 refine At.andI rfl rfl rfl ?_
 refine At.remI rfl rfl (by first | omega | (simp; omega)) rfl ?_
 obtain ⟨q2, hq2, lq2⟩ := and_mod a1 (k := 7) (by decide)
 refine At.set (d := 20) (u := .int .i64 (q2 : Int)) rfl (congrArg (Value.int .i64) hq2) ?_
 refine At.assign rfl rfl ?_
 refine At.ops0 ?_
 refine At.thenN ?_
 refine At.seq ?_
 refine At.region ?_
 refine At.assign rfl rfl ?_
 refine At.ops0 ?_
 refine At.thenN ?_
 refine At.seq ?_
 refine At.seq ?_
 refine At.region ?_
 refine At.assign rfl rfl ?_
 refine At.ops0 ?_
 refine At.thenN ?_
 refine At.block ?_
 refine At.loop (Nat) (fun i => [(0, .int .i64 (q1 : Int)), (5, .bool true), (6, (.slice (some ⟨b1, 0, none⟩) 7 7)), (7, .int .i64 (q2 : Int)), (8, .string (bs (nestS q2 i))), (9, .int .i64 (i : Int))]) (fun i w3 => w2 = w3 ∧ (i ≤ q1)) (fun i => q1 - i) (0 : Nat) (Sub.cons rfl (Sub.cons rfl (Sub.cons rfl (Sub.cons rfl (Sub.cons rfl (Sub.cons rfl Sub.nil)))))) ⟨rfl, (by omega)⟩ (fun i w3 hI => ?_)
 obtain ⟨rfl, hi⟩ := hI
 show At _ _ [(0, .int .i64 (q1 : Int)), (5, .bool true), (6, (.slice (some ⟨b1, 0, none⟩) 7 7)), (7, .int .i64 (q2 : Int)), (8, .string (bs (nestS q2 i))), (9, .int .i64 (i : Int))] _ _
 refine At.seq ?_
 refine At.seq ?_
 refine At.region ?_
 refine At.move rfl rfl ?_
 refine At.move rfl rfl ?_
 refine At.lss rfl rfl rfl ?_
 refine At.ops0 ?_
 refine At.thenN ?_
 refine At.cond (b := decide ((i : Int) < (q1 : Int))) rfl (fun hc1 => ?_) (fun hc1 => ?_)
 ·skip
  have hc1' := of_decide_eq_true hc1
  refine At.skip ?_
  refine At.thenN ?_
  refine At.seq ?_
  refine At.block ?_
  refine At.seq ?_
  refine At.region ?_
  refine At.move rfl rfl ?_
  refine At.move rfl rfl ?_
  obtain ⟨u1, hu1⟩ := some_of_lt (l := [(⟨#[102, 117, 110, 32, 120, 32, 45, 62, 32]⟩ : ByteArray), (⟨#[108, 101, 116, 32, 120, 32, 61, 32, 49, 32, 105, 110, 32]⟩ : ByteArray), (⟨#[105, 102, 32, 116, 114, 117, 101, 32, 116, 104, 101, 110, 32, 48, 32, 101, 108, 115, 101, 32]⟩ : ByteArray), (⟨#[33, 32]⟩ : ByteArray), (⟨#[112, 114, 105, 110, 116, 32]⟩ : ByteArray), (⟨#[67, 40]⟩ : ByteArray), (⟨#[103, 101, 116, 33, 32]⟩ : ByteArray)]) (i := q2) (by first | omega | (simp; omega))
  refine At.indexAddr (i := q2) rfl rfl ((StrsAt.own (ss := [(⟨#[102, 117, 110, 32, 120, 32, 45, 62, 32]⟩ : ByteArray), (⟨#[108, 101, 116, 32, 120, 32, 61, 32, 49, 32, 105, 110, 32]⟩ : ByteArray), (⟨#[105, 102, 32, 116, 114, 117, 101, 32, 116, 104, 101, 110, 32, 48, 32, 101, 108, 115, 101, 32]⟩ : ByteArray), (⟨#[33, 32]⟩ : ByteArray), (⟨#[112, 114, 105, 110, 116, 32]⟩ : ByteArray), (⟨#[67, 40]⟩ : ByteArray), (⟨#[103, 101, 116, 33, 32]⟩ : ByteArray)]) hb1 rfl (by decide) : StrsAt _ (.slice (some ⟨b1, 0, none⟩) 7 7) [(⟨#[102, 117, 110, 32, 120, 32, 45, 62, 32]⟩ : ByteArray), (⟨#[108, 101, 116, 32, 120, 32, 61, 32, 49, 32, 105, 110, 32]⟩ : ByteArray), (⟨#[105, 102, 32, 116, 114, 117, 101, 32, 116, 104, 101, 110, 32, 48, 32, 101, 108, 115, 101, 32]⟩ : ByteArray), (⟨#[33, 32]⟩ : ByteArray), (⟨#[112, 114, 105, 110, 116, 32]⟩ : ByteArray), (⟨#[67, 40]⟩ : ByteArray), (⟨#[103, 101, 116, 33, 32]⟩ : ByteArray)])).ok (lt_of_some hu1) el29 sz9 rfl ?_
  refine At.load rfl (Ld.cell ag9 (cell_keep (((StrsAt.own (ss := [(⟨#[102, 117, 110, 32, 120, 32, 45, 62, 32]⟩ : ByteArray), (⟨#[108, 101, 116, 32, 120, 32, 61, 32, 49, 32, 105, 110, 32]⟩ : ByteArray), (⟨#[105, 102, 32, 116, 114, 117, 101, 32, 116, 104, 101, 110, 32, 48, 32, 101, 108, 115, 101, 32]⟩ : ByteArray), (⟨#[33, 32]⟩ : ByteArray), (⟨#[112, 114, 105, 110, 116, 32]⟩ : ByteArray), (⟨#[67, 40]⟩ : ByteArray), (⟨#[103, 101, 116, 33, 32]⟩ : ByteArray)]) hb1 rfl (by decide) : StrsAt _ (.slice (some ⟨b1, 0, none⟩) 7 7) [(⟨#[102, 117, 110, 32, 120, 32, 45, 62, 32]⟩ : ByteArray), (⟨#[108, 101, 116, 32, 120, 32, 61, 32, 49, 32, 105, 110, 32]⟩ : ByteArray), (⟨#[105, 102, 32, 116, 114, 117, 101, 32, 116, 104, 101, 110, 32, 48, 32, 101, 108, 115, 101, 32]⟩ : ByteArray), (⟨#[33, 32]⟩ : ByteArray), (⟨#[112, 114, 105, 110, 116, 32]⟩ : ByteArray), (⟨#[67, 40]⟩ : ByteArray), (⟨#[103, 101, 116, 33, 32]⟩ : ByteArray)])).get hu1) (Below.refl _ _))) rfl ?_
  refine At.set (d := 29) (u := .string (bs (begK q2))) rfl (congrArg Value.string (beg_at hu1)) ?_
  refine At.move rfl rfl ?_
  refine At.catB (a := begK q2) (b := (nestS q2 i)) rfl rfl rfl (by have q := nestS_len q2 i; have q2_ := beg_len q2; (try simp only [List.length_append, List.length_cons, List.length_nil]); omega) ?_
  refine At.assign rfl rfl ?_
  refine At.ops0 ?_
  refine At.thenN ?_
  refine At.seq ?_
  refine At.region ?_
  refine At.move rfl rfl ?_
  refine At.eqI rfl rfl rfl ?_
  refine At.ops0 ?_
  refine At.thenN ?_
  refine At.cond (b := decide ((q2 : Int) = 5)) rfl (fun hc2 => ?_) (fun hc2 => ?_)
  ·skip
   have hc2' := of_decide_eq_true hc2
   refine At.region ?_
   refine At.move rfl rfl ?_
   refine At.catB (a := (begK q2 ++ (nestS q2 i))) (b := ([41] : List UInt8)) rfl rfl rfl (by have q := nestS_len q2 i; have q2_ := beg_len q2; (try simp only [List.length_append, List.length_cons, List.length_nil]); omega) ?_
   refine At.assign rfl rfl ?_
   refine At.ops0 ?_
   refine At.inN ?_
   refine At.thenN ?_
   refine At.region ?_
   refine At.move rfl rfl ?_
   refine At.addI rfl rfl rfl (by first | omega | (simp; omega)) ?_
   refine At.assign rfl rfl ?_
   refine At.ops0 ?_
   refine At.thenN ?_
   exact fun act_ hact_ => ⟨(i + 1), hact_.sub (Sub.cons rfl (Sub.cons rfl (Sub.cons rfl (Sub.cons rfl (Sub.cons (congrArg (fun l => some (Value.string (bs l))) (nest_five hc2')) (Sub.cons rfl Sub.nil)))))), ⟨rfl, (by omega)⟩, by first | omega | (dsimp only; omega)⟩
  ·skip
   have hc2' := of_decide_eq_false hc2
   refine At.skip ?_
   refine At.inN ?_
   refine At.thenN ?_
   refine At.region ?_
   refine At.move rfl rfl ?_
   refine At.addI rfl rfl rfl (by first | omega | (simp; omega)) ?_
   refine At.assign rfl rfl ?_
   refine At.ops0 ?_
   refine At.thenN ?_
   exact fun act_ hact_ => ⟨(i + 1), hact_.sub (Sub.cons rfl (Sub.cons rfl (Sub.cons rfl (Sub.cons rfl (Sub.cons (congrArg (fun l => some (Value.string (bs l))) (nest_else hc2')) (Sub.cons rfl Sub.nil)))))), ⟨rfl, (by omega)⟩, by first | omega | (dsimp only; omega)⟩
 ·skip
  have hc1' := of_decide_eq_false hc1
  refine At.exit ?_
  refine At.thenE ?_
  refine At.thenE ?_
  refine At.inE ?_
  refine At.thenN ?_
  refine At.seq ?_
  refine At.set (d := 8) (u := .string (bs (nestS q2 q1))) rfl (congrArg Value.string (by rw [show i = q1 by omega])) ?_
  refine At.region ?_
  refine At.move rfl rfl ?_
  refine At.toBytes (l := (nestS q2 q1)) rfl st9 el22 ik5 (by have q := nestS_len q2 q1; omega) rfl (fun b2 cap1 w4 hgbb1 hbl2 hby1 => ?_)
  replace hb1 := Below.old hbl2 hb1
  replace hB := Below.andThen hB hbl2
  have hml1 : MLt w4.heap.size [some b1] := (MLt.blk hb1 (MLt.nil _))
  refine At.call en13 rfl rfl (parse_any (.slice (some ⟨b2, 0, none⟩) (nestS q2 q1).length cap1) (nestS q2 q1) m _ (BytesAt.keep hby1 (Below.refl _ _)) (cell_keep hm hB)) (fun e w5 hR => ?_)
  obtain ⟨pr1, rfl, hbl3, hpk1, hsh1, hpl1, hpb1⟩ := hR
  refine ⟨_, rfl, ?_⟩
  replace hb1 := Below.old hbl3 hb1
  replace hby1 := hby1.below hbl3
  replace hB := Below.andThen hB hbl3
  have hXp1 := Xs.of_new (B := 0) (M := [some b1]) (K := kPr) hpk1 (fun b hb => .inr (hpb1 b hb)) (fun _ _ => Nat.zero_le _) hml1
  clear hpk1 hpb1 hml1
  refine At.move rfl rfl ?_
  refine At.extract rfl rfl rfl ?_
  refine At.extract rfl rfl rfl ?_
  refine At.extract rfl rfl rfl ?_
  refine At.alloc ze37 rfl (fun b3 w6 F2 => ?_)
  have n_b1_b3 : b1 ≠ b3 := Nat.ne_of_lt (F2.lt hb1)
  have gb3 := F2.ge hB
  replace hb1 := F2.old hb1
  replace hby1 := hby1.fresh F2
  replace hXp1 := Xs.fresh hXp1 F2
  have hb3 : w6.heap[b3]? = some (.cells #[(.slice none 0 0), (.slice none 0 0), .int .i64 0, .int .i64 0, .string (⟨#[]⟩ : ByteArray), .string (⟨#[]⟩ : ByteArray), .int .i64 0, (.slice none 0 0), (.slice none 0 0), .int .i64 0, .string (⟨#[]⟩ : ByteArray), .int .i64 0, (.slice none 0 0), (.slice none 0 0), .int .i64 0, (.slice none 0 0), .int .i64 0, .int .i64 0, .string (⟨#[]⟩ : ByteArray), .int .i64 0, (.slice none 0 0), (.slice none 0 0), .int .i64 0] 37) := F2.new
  replace hB := F2.below' hB
  refine At.storeAll rfl rfl hb3 (sz37.trans (congrArg some ((Xs.one hXp1)).size.symm)) ((Xs.one hXp1)).size.symm ((Xs.one hXp1)).one (fun w7 S1 => ?_)
  replace hb1 := S1.other hb1 n_b1_b3
  clear hby1
  replace hXp1 := Xs.set hXp1 S1 (by simp)
  replace hb3 : w7.heap[b3]? = some (.cells pr1.cs 37) := S1.new
  replace hB := S1.below' hB gb3
  refine At.assign rfl rfl ?_
  refine At.assign rfl rfl ?_
  refine At.ops0 ?_
  refine At.thenN ?_
  refine At.seq ?_
  refine At.seq ?_
  refine At.region ?_
  refine At.move rfl rfl ?_
  refine At.gtr rfl rfl rfl ?_
  refine At.ops0 ?_
  refine At.thenN ?_
  refine At.cond (b := decide (199 < (q1 : Int))) rfl (fun hc3 => ?_) (fun hc3 => ?_)
  ·skip
   have hc3' := of_decide_eq_true hc3
   refine At.seq ?_
   refine At.region ?_
   refine At.move rfl rfl ?_
   refine At.move rfl rfl ?_
   refine At.yes rfl rfl rfl rfl ?_
   refine At.move rfl rfl ?_
   refine At.yes rfl rfl rfl rfl ?_
   refine At.eqI rfl rfl rfl ?_
   refine At.pickT rfl rfl rfl ?_
   refine At.move rfl rfl ?_
   have hbb1 : (decide ((parseR (nestS q2 q1)).2.2 = 6)) = true := decide_eq_true (nest_bad (p := pr1) lq2 lq1 (by omega)).1
   refine At.set (d := 50) (u := .bool true) rfl (congrArg Value.bool hbb1) ?_
   refine At.yes rfl rfl rfl rfl ?_
   refine At.fieldAddr rfl fo37_2 rfl ?_
   refine At.yes rfl rfl rfl rfl ?_
   refine At.fieldAddr rfl fo35_0 rfl ?_
   refine At.yes rfl rfl rfl rfl ?_
   refine At.load rfl (Ld.ownCell ag3 hb3 (sub_cell ((Xs.one hXp1)).bodyCs (((Xs.one hXp1)).bodyOk).c0)) rfl ?_
   refine At.yes rfl rfl rfl rfl ?_
   refine At.eqI rfl rfl rfl ?_
   refine At.pickT rfl rfl rfl ?_
   refine At.assign rfl rfl ?_
   refine At.ops0 ?_
   refine At.thenN ?_
   refine At.retc ?_
   refine At.thenR ?_
   refine At.doneR (ResV.tmp rfl ResV.nil) ?_
   exact ⟨congrArg Ending.returned (congrArg Value.bool (decide_eq_true ((nest_bad (p := pr1) lq2 lq1 (by omega)).2 hsh1))), hB⟩
  ·skip
   have hc3' := of_decide_eq_false hc3
   refine At.skip ?_
   refine At.thenN ?_
   refine At.seq ?_
   refine At.region ?_
   refine At.move rfl rfl ?_
   refine At.move rfl rfl ?_
   refine At.yes rfl rfl rfl rfl ?_
   refine At.move rfl rfl ?_
   refine At.yes rfl rfl rfl rfl ?_
   refine At.eqI rfl rfl rfl ?_
   refine At.pickT rfl rfl rfl ?_
   refine At.move rfl rfl ?_
   have hbb2 : (decide ((parseR (nestS q2 q1)).2.2 = 0)) = true := decide_eq_true (nest_good (p := pr1) lq2 lq1 (by omega)).1
   refine At.set (d := 61) (u := .bool true) rfl (congrArg Value.bool hbb2) ?_
   refine At.yes rfl rfl rfl rfl ?_
   refine At.fieldAddr rfl fo37_2 rfl ?_
   refine At.yes rfl rfl rfl rfl ?_
   refine At.load rfl (Ld.ownPart ag35 (sz35.trans (congrArg some (((Xs.one hXp1)).bodyOk).size.symm)) hb3 ((Xs.one hXp1)).bodyCs) rfl ?_
   refine At.yes rfl rfl rfl rfl ?_
   refine At.call en19 rfl rfl (Depth_any pr1.body _ ((Xs.one hXp1)).bodyOk) (fun e w8 hR => ?_)
   obtain ⟨rfl, hbl4⟩ := hR
   refine ⟨_, rfl, ?_⟩
   replace hb1 := Below.old hbl4 hb1
   replace hb3 := Below.old hbl4 hb3
   replace hXp1 := Xs.below hXp1 hbl4
   replace hB := Below.andThen hB hbl4
   refine At.yes rfl rfl rfl rfl ?_
   refine At.move rfl rfl ?_
   refine At.yes rfl rfl rfl rfl ?_
   refine At.addI rfl rfl rfl (by first | omega | (simp; omega)) ?_
   refine At.yes rfl rfl rfl rfl ?_
   refine At.eqI rfl rfl rfl ?_
   refine At.pickT rfl rfl rfl ?_
   refine At.assign rfl rfl ?_
   refine At.ops0 ?_
   refine At.thenN ?_
   refine At.retc ?_
   refine At.doneR (ResV.tmp rfl ResV.nil) ?_
   exact ⟨congrArg Ending.returned (congrArg Value.bool (decide_eq_true ((nest_good (p := pr1) lq2 lq1 (by omega)).2 hsh1))), hB⟩
end Go.Proofs.Ytkjmjnddanhapaa
