/-
 The walk of ParseBrackets. Written by a program of ours.
-/
import Derived.Test.YtkjmjnddanhapaaN28
import Derived.Test.YtkjmjnddanhapaaU20
set_option linter.unusedVariables false
set_option linter.unusedSimpArgs false
namespace Go.Proofs.Ytkjmjnddanhapaa
open Go.RowKit
theorem en12 : entB Try.prog 12 = true := by kernel_rfl
def bkP (l : List UInt8) (n : Nat) : List UInt8 := (List.replicate n 40 ++ l) ++ [10]
theorem bkP_len (l : List UInt8) (n : Nat) : (bkP l n).length = n + l.length + 1 := by unfold bkP; simp only [List.length_append, List.length_replicate, List.length_cons, List.length_nil]
theorem bkS_len (l : List UInt8) (n : Nat) : (bkS l n).length = n + l.length + 1 + n := by unfold bkS; simp only [List.length_append, List.length_replicate, List.length_cons]; omega
theorem bkS_eq {l : List UInt8} {n j : Nat} (h : j = n) : bkP l n ++ List.replicate j 41 = bkS l n := by subst h; unfold bkP bkS; simp
theorem brack_facts {S : List UInt8} (hl : S.length ≤ 500) {n : Nat} (hn : n < 231) {p q : Pr} (h0 : (parseR S).2.2 = 0) (he : p.effs.length = 0) (hd : p.dats.length = 0) (hp : shPr p = (parseR S).1.getD zP) (hq : shPr q = (parseR (bkS S n)).1.getD zP) :
  ((parseR (bkS S n)).2.2 = 6 ∧ 0 < n) ∨ ((parseR (bkS S n)).2.2 = 0 ∧ n ≤ 200 ∧ VT (shT p.body) (shT q.body)) := by
 obtain ⟨_, x, us, hx, _⟩ := parse_zero h0
 rw [hx] at hp
 have e1 : x.effs = [] := by rw [← show (shPr p).effs = x.effs from congrArg SPr.effs hp]; show p.effs.map shEff = []; rw [List.length_eq_zero_iff.1 he]; rfl
 have e2 : x.dats = [] := by rw [← show (shPr p).dats = x.dats from congrArg SPr.dats hp]; show p.dats.map shDat = []; rw [List.length_eq_zero_iff.1 hd]; rfl
 rcases brack_parse hl (n := n) (by omega) hx e1 e2 with ⟨y, hy, hv, h⟩ | ⟨h, a, ha⟩
 ·rw [hy] at hq ⊢
  refine Or.inr ⟨rfl, h, ?_⟩
  rw [show shT p.body = x.body from congrArg SPr.body hp, show shT q.body = y.body from congrArg SPr.body hq]; exact hv
 ·rw [ha]; exact Or.inl ⟨rfl, h⟩
theorem brackets_any (v : Value) (l : List UInt8) (i0 : Int) (m : Int) (w : World) (hv : BytesAt w v l) (hm : w.cell? ⟨0, 0, none⟩ = some (.int .i64 m)) :
  Calls Try.prog 3 ([v, .int .i64 i0] : List Value).toArray w fun e w' => e = .returned (.bool true) ∧ Below w.heap.size w w' := by
 have hB := Below.refl w.heap.size w
 refine At.enter (N := 94) Try.func3 rfl rfl (by simp) [(0, v), (1, .int .i64 i0)] (by simp) ?_
 refine At.seq ?_
 refine At.region ?_
 refine At.assign rfl rfl ?_
 refine At.ops0 ?_
 refine At.thenN ?_
 refine At.seq ?_
 refine At.region ?_
 refine At.call en12 rfl rfl (shown_any m _ (cell_keep hm hB)) (fun e w1 hR => ?_)
 obtain ⟨rfl, hbl1⟩ := hR
 refine ⟨_, rfl, ?_⟩
 replace hB := Below.andThen hB hbl1
 refine At.assign rfl rfl ?_
 refine At.ops0 ?_
 refine At.thenN ?_
 refine At.seq ?_
 refine At.region ?_
 refine At.move rfl rfl ?_
 refine At.move rfl rfl ?_
 refine At.lenSl rfl (BytesAt.ok hv) el22 rfl ?_
 refine At.minI rfl rfl rfl ?_
 refine At.set (d := 19) (u := .int .i64 (((min l.length 500) : Nat) : Int)) rfl (congrArg (Value.int .i64) (min_lit _ _)) ?_
 have hle1 : (min l.length 500) ≤ l.length := by first | omega | (simp; done) | (simp; omega)
 refine At.sliceTo (h := (min l.length 500)) rfl rfl (BytesAt.ok hv) el22 sz5 hle1 rfl ?_
 obtain ⟨S1, hS1, bS1⟩ : ∃ x : List UInt8, (l.take (min l.length 500)) = x ∧ x.length ≤ 500 := ⟨_, rfl, by simp only [List.length_take]; omega⟩
 refine At.assign rfl rfl ?_
 refine At.ops0 ?_
 refine At.thenN ?_
 refine At.seq ?_
 refine At.region ?_
 refine At.move rfl rfl ?_
 have hml1 : MLt w1.heap.size [] := (MLt.nil _)
 refine At.call en13 rfl rfl (parse_any (takeV v (min l.length 500)) S1 m _ (BytesAt.keep (BytesAt.eqL (BytesAt.take hv hle1) hS1) hB) (cell_keep hm hB)) (fun e w2 hR => ?_)
 obtain ⟨pr1, rfl, hbl2, hpk1, hsh1, hpl1, hpb1⟩ := hR
 refine ⟨_, rfl, ?_⟩
 replace hB := Below.andThen hB hbl2
 have hXp1 := Xs.of_new (B := 0) (M := []) (K := kPr) hpk1 (fun b hb => .inr (hpb1 b hb)) (fun _ _ => Nat.zero_le _) hml1
 clear hpk1 hpb1 hml1
 refine At.move rfl rfl ?_
 refine At.extract rfl rfl rfl ?_
 refine At.extract rfl rfl rfl ?_
 refine At.extract rfl rfl rfl ?_
 refine At.alloc ze37 rfl (fun b1 w3 F1 => ?_)
 have gb1 := F1.ge hB
 replace hXp1 := Xs.fresh hXp1 F1
 have hb1 : w3.heap[b1]? = some (.cells #[zN, zN, zI, zI, zS, zS, zI, zN, zN, zI, zS, zI, zN, zN, zI, zN, zI, zI, zS, zI, zN, zN, zI] 37) := F1.new
 replace hB := F1.below' hB
 refine At.storeAll rfl rfl hb1 (sz37.trans (congrArg some ((Xs.one hXp1)).size.symm)) ((Xs.one hXp1)).size.symm ((Xs.one hXp1)).one (fun w4 S2 => ?_)
 replace hXp1 := Xs.set hXp1 S2 (by simp)
 replace hb1 : w4.heap[b1]? = some (.cells pr1.cs 37) := S2.new
 replace hB := S2.below' hB gb1
 refine At.assign rfl rfl ?_
 refine At.assign rfl rfl ?_
 refine At.ops0 ?_
 refine At.thenN ?_
 refine At.seq ?_
 refine At.seq ?_
 refine At.region ?_
 refine At.move rfl rfl ?_
 refine At.neI rfl rfl rfl ?_
 refine At.move rfl rfl ?_
 refine At.cases ((!decide ((parseR S1).2.2 = 0))) (fun hg1 => ?_) (fun hg1 => ?_)
 ·skip
  refine At.set (d := 29) (u := .bool true) rfl (congrArg Value.bool hg1) ?_
  have hg1' := hg1; simp only [Bool.not_eq_true', Bool.not_eq_false', decide_eq_true_eq, decide_eq_false_iff_not] at hg1'
  refine At.no rfl rfl rfl rfl rfl rfl rfl ?_
  refine At.no rfl rfl rfl rfl rfl rfl rfl ?_
  refine At.no rfl rfl rfl rfl rfl rfl rfl ?_
  refine At.no rfl rfl rfl rfl rfl rfl rfl ?_
  refine At.pickT rfl rfl rfl ?_
  refine At.move rfl rfl ?_
  refine At.no rfl rfl rfl rfl rfl rfl rfl ?_
  refine At.no rfl rfl rfl rfl rfl rfl rfl ?_
  refine At.no rfl rfl rfl rfl rfl rfl rfl ?_
  refine At.no rfl rfl rfl rfl rfl rfl rfl ?_
  refine At.pickT rfl rfl rfl ?_
  refine At.ops0 ?_
  refine At.thenN ?_
  refine At.condT rfl ?_
  refine At.seq ?_
  refine At.region ?_
  refine At.move rfl rfl ?_
  refine At.assign rfl rfl ?_
  refine At.ops0 ?_
  refine At.thenN ?_
  refine At.retc ?_
  refine At.thenR ?_
  refine At.doneR (ResV.tmp rfl ResV.nil) ?_
  exact ⟨rfl, hB⟩
 ·skip
  refine At.set (d := 29) (u := .bool false) rfl (congrArg Value.bool hg1) ?_
  have hg1' := hg1; simp only [Bool.not_eq_true', Bool.not_eq_false', decide_eq_true_eq, decide_eq_false_iff_not] at hg1'
  refine At.yes rfl rfl rfl rfl ?_
  refine At.fieldAddr rfl fo37_0 rfl ?_
  refine At.yes rfl rfl rfl rfl ?_
  refine At.load rfl (Ld.ownCell ag24 hb1 ((Xs.one hXp1)).c0) rfl ?_
  refine At.yes rfl rfl rfl rfl ?_
  refine At.lenSl rfl (((Xs.one hXp1)).effsAt).okL el24 rfl ?_
  refine At.yes rfl rfl rfl rfl ?_
  refine At.gtr rfl rfl rfl ?_
  refine At.pickF rfl rfl rfl ?_
  refine At.move rfl rfl ?_
  refine At.cases (decide (0 < (pr1.effs.length : Int))) (fun hg2 => ?_) (fun hg2 => ?_)
  ·skip
   refine At.set (d := 35) (u := .bool true) rfl (congrArg Value.bool hg2) ?_
   have hg2' := of_decide_eq_true hg2
   refine At.no rfl rfl rfl rfl rfl rfl rfl ?_
   refine At.no rfl rfl rfl rfl rfl rfl rfl ?_
   refine At.no rfl rfl rfl rfl rfl rfl rfl ?_
   refine At.no rfl rfl rfl rfl rfl rfl rfl ?_
   refine At.pickT rfl rfl rfl ?_
   refine At.ops0 ?_
   refine At.thenN ?_
   refine At.condT rfl ?_
   refine At.seq ?_
   refine At.region ?_
   refine At.move rfl rfl ?_
   refine At.assign rfl rfl ?_
   refine At.ops0 ?_
   refine At.thenN ?_
   refine At.retc ?_
   refine At.thenR ?_
   refine At.doneR (ResV.tmp rfl ResV.nil) ?_
   exact ⟨rfl, hB⟩
  ·skip
   refine At.set (d := 35) (u := .bool false) rfl (congrArg Value.bool hg2) ?_
   have hg2' := of_decide_eq_false hg2
   refine At.yes rfl rfl rfl rfl ?_
   refine At.fieldAddr rfl fo37_1 rfl ?_
   refine At.yes rfl rfl rfl rfl ?_
   refine At.load rfl (Ld.ownCell ag25 hb1 ((Xs.one hXp1)).c1) rfl ?_
   refine At.yes rfl rfl rfl rfl ?_
   refine At.lenSl rfl (((Xs.one hXp1)).datsAt).okL el25 rfl ?_
   refine At.yes rfl rfl rfl rfl ?_
   refine At.gtr rfl rfl rfl ?_
   refine At.pickF rfl rfl rfl ?_
   refine At.ops0 ?_
   refine At.thenN ?_
   refine At.cond (b := decide (0 < (pr1.dats.length : Int))) rfl (fun hc1 => ?_) (fun hc1 => ?_)
   ·skip
    have hc1' := of_decide_eq_true hc1
    refine At.seq ?_
    refine At.region ?_
    refine At.move rfl rfl ?_
    refine At.assign rfl rfl ?_
    refine At.ops0 ?_
    refine At.thenN ?_
    refine At.retc ?_
    refine At.thenR ?_
    refine At.doneR (ResV.tmp rfl ResV.nil) ?_
    exact ⟨rfl, hB⟩
   ·skip
    have hc1' := of_decide_eq_false hc1
    refine At.skip ?_
    refine At.thenN ?_
    refine At.seq ?_
    refine At.region ?_
    refine At.move rfl rfl ?_
    refine At.andI rfl rfl rfl ?_
    refine At.remI rfl rfl (by first | omega | (simp; done) | (simp; omega)) rfl ?_
    obtain ⟨q1, hq1, lq1⟩ := and_mod i0 (k := 231) (by decide)
    refine At.set (d := 44) (u := .int .i64 (q1 : Int)) rfl (congrArg (Value.int .i64) hq1) ?_
    refine At.assign rfl rfl ?_
    refine At.ops0 ?_
    refine At.thenN ?_
    refine At.seq ?_
    refine At.region ?_
    refine At.assign rfl rfl ?_
    refine At.ops0 ?_
    refine At.thenN ?_
    refine At.seq ?_
    refine At.seq ?_
    refine At.region ?_
    refine At.assign rfl rfl ?_
    refine At.ops0 ?_
    refine At.thenN ?_
    refine At.block ?_
    refine At.loop (Nat) (fun i => [(0, (takeV v (min l.length 500))), (1, .int .i64 (q1 : Int)), (5, .bool true), (6, .pointer (some ⟨b1, 0, none⟩)), (9, .string (bs (List.replicate i 40))), (10, .int .i64 (i : Int))]) (fun i w5 => Below w.heap.size w w5 ∧ w5.heap[b1]? = some (.cells pr1.cs 37) ∧ Xs kPr [some b1] w5 [pr1] ∧ (i ≤ q1)) (fun i => q1 - i) (0 : Nat) (Sub.cons rfl (Sub.cons rfl (Sub.cons rfl (Sub.cons rfl (Sub.cons rfl (Sub.cons rfl Sub.nil)))))) ⟨hB, hb1, hXp1, (Nat.zero_le _)⟩ (fun i w5 hI => ?_)
    clear hB hb1 hXp1
    obtain ⟨hB, hb1, hXp1, hi⟩ := hI
    show At _ _ [(0, (takeV v (min l.length 500))), (1, .int .i64 (q1 : Int)), (5, .bool true), (6, .pointer (some ⟨b1, 0, none⟩)), (9, .string (bs (List.replicate i 40))), (10, .int .i64 (i : Int))] _ _
    refine At.seq ?_
    refine At.seq ?_
    refine At.region ?_
    refine At.move rfl rfl ?_
    refine At.move rfl rfl ?_
    refine At.lss rfl rfl rfl ?_
    refine At.ops0 ?_
    refine At.thenN ?_
    refine At.cond (b := decide ((i : Int) < (q1 : Int))) rfl (fun hc2 => ?_) (fun hc2 => ?_)
    ·skip
     have hc2' := of_decide_eq_true hc2
     refine At.skip ?_
     refine At.thenN ?_
     refine At.seq ?_
     refine At.block ?_
     refine At.region ?_
     refine At.move rfl rfl ?_
     refine At.catB (a := ([40] : List UInt8)) (b := (List.replicate i 40)) rfl rfl rfl (by first | (rw [bkP_len]; omega) | (rw [List.length_append, bkP_len, List.length_replicate]; simp; omega) | ((try simp only [List.length_append, List.length_cons, List.length_nil, List.length_replicate]); omega)) ?_
     refine At.assign rfl rfl ?_
     refine At.ops0 ?_
     refine At.inN ?_
     refine At.thenN ?_
     refine At.region ?_
     refine At.move rfl rfl ?_
     refine At.addI rfl rfl rfl (by first | omega | (simp; done) | (simp; omega)) ?_
     refine At.assign rfl rfl ?_
     refine At.ops0 ?_
     refine At.thenN ?_
     exact fun act_ hact_ => ⟨(i + 1), hact_.sub (Sub.cons rfl (Sub.cons rfl (Sub.cons rfl (Sub.cons rfl (Sub.cons rfl (Sub.cons rfl Sub.nil)))))), ⟨hB, hb1, hXp1, (by omega)⟩, by first | omega | (dsimp only; omega)⟩
    ·skip
     have hc2' := of_decide_eq_false hc2
     refine At.exit ?_
     refine At.thenE ?_
     refine At.thenE ?_
     refine At.inE ?_
     refine At.thenN ?_
     refine At.seq ?_
     refine At.region ?_
     refine At.move rfl rfl ?_
     refine At.move rfl rfl ?_
     refine At.ofBytes (l := S1) rfl (BytesAt.keep (BytesAt.eqL (BytesAt.take hv hle1) hS1) hB) el22 ik5 st9 rfl ?_
     refine At.catB (a := (List.replicate i 40)) (b := S1) rfl rfl rfl (by first | (rw [bkP_len]; omega) | (rw [List.length_append, bkP_len, List.length_replicate]; simp; omega) | ((try simp only [List.length_append, List.length_cons, List.length_nil, List.length_replicate]); omega)) ?_
     refine At.catB (a := ((List.replicate i 40) ++ S1)) (b := ([10] : List UInt8)) rfl rfl rfl (by first | (rw [bkP_len]; omega) | (rw [List.length_append, bkP_len, List.length_replicate]; simp; omega) | ((try simp only [List.length_append, List.length_cons, List.length_nil, List.length_replicate]); omega)) ?_
     refine At.assign rfl rfl ?_
     refine At.ops0 ?_
     refine At.thenN ?_
     refine At.seq ?_
     refine At.seq ?_
     refine At.set (d := 9) (u := .string (bs (bkP S1 q1 ++ List.replicate 0 41))) rfl (congrArg Value.string (by rw [show i = q1 by omega]; simp [bkP])) ?_
     refine At.region ?_
     refine At.assign rfl rfl ?_
     refine At.ops0 ?_
     refine At.thenN ?_
     refine At.block ?_
     refine At.loop (Nat) (fun j => [(1, .int .i64 (q1 : Int)), (5, .bool true), (6, .pointer (some ⟨b1, 0, none⟩)), (9, .string (bs (bkP S1 q1 ++ List.replicate j 41))), (11, .int .i64 (j : Int))]) (fun j w6 => Below w.heap.size w w6 ∧ w6.heap[b1]? = some (.cells pr1.cs 37) ∧ Xs kPr [some b1] w6 [pr1] ∧ (j ≤ q1)) (fun j => q1 - j) (0 : Nat) (Sub.cons rfl (Sub.cons rfl (Sub.cons rfl (Sub.cons rfl (Sub.cons rfl Sub.nil))))) ⟨hB, hb1, hXp1, (Nat.zero_le _)⟩ (fun j w6 hI => ?_)
     clear hB hb1 hXp1
     obtain ⟨hB, hb1, hXp1, hj⟩ := hI
     show At _ _ [(1, .int .i64 (q1 : Int)), (5, .bool true), (6, .pointer (some ⟨b1, 0, none⟩)), (9, .string (bs (bkP S1 q1 ++ List.replicate j 41))), (11, .int .i64 (j : Int))] _ _
     refine At.seq ?_
     refine At.seq ?_
     refine At.region ?_
     refine At.move rfl rfl ?_
     refine At.move rfl rfl ?_
     refine At.lss rfl rfl rfl ?_
     refine At.ops0 ?_
     refine At.thenN ?_
     refine At.cond (b := decide ((j : Int) < (q1 : Int))) rfl (fun hc3 => ?_) (fun hc3 => ?_)
     ·skip
      have hc3' := of_decide_eq_true hc3
      refine At.skip ?_
      refine At.thenN ?_
      refine At.seq ?_
      refine At.block ?_
      refine At.region ?_
      refine At.move rfl rfl ?_
      refine At.catB (a := (bkP S1 q1 ++ List.replicate j 41)) (b := ([41] : List UInt8)) rfl rfl rfl (by first | (rw [bkP_len]; omega) | (rw [List.length_append, bkP_len, List.length_replicate]; simp; omega) | ((try simp only [List.length_append, List.length_cons, List.length_nil, List.length_replicate]); omega)) ?_
      refine At.assign rfl rfl ?_
      refine At.ops0 ?_
      refine At.inN ?_
      refine At.thenN ?_
      refine At.region ?_
      refine At.move rfl rfl ?_
      refine At.addI rfl rfl rfl (by first | omega | (simp; done) | (simp; omega)) ?_
      refine At.assign rfl rfl ?_
      refine At.ops0 ?_
      refine At.thenN ?_
      exact fun act_ hact_ => ⟨(j + 1), hact_.sub (Sub.cons rfl (Sub.cons rfl (Sub.cons rfl (Sub.cons (congrArg (fun l => some (Value.string (bs l))) (by rw [List.replicate_succ', List.append_assoc])) (Sub.cons rfl Sub.nil))))), ⟨hB, hb1, hXp1, (by omega)⟩, by first | omega | (dsimp only; omega)⟩
     ·skip
      have hc3' := of_decide_eq_false hc3
      refine At.exit ?_
      refine At.thenE ?_
      refine At.thenE ?_
      refine At.inE ?_
      refine At.thenN ?_
      refine At.seq ?_
      refine At.set (d := 9) (u := .string (bs (bkS S1 q1))) rfl (congrArg Value.string (by rw [bkS_eq (by omega)])) ?_
      refine At.region ?_
      refine At.move rfl rfl ?_
      refine At.toBytes (l := (bkS S1 q1)) rfl st9 el22 ik5 (by rw [bkS_len]; omega) rfl (fun b2 cap1 w7 hgbb1 hbl3 hby1 => ?_)
      replace hb1 := Below.old hbl3 hb1
      replace hXp1 := Xs.below hXp1 hbl3
      replace hB := Below.andThen hB hbl3
      have hml2 : MLt w7.heap.size [some b1] := (MLt.blk hb1 (MLt.nil _))
      refine At.call en13 rfl rfl (parse_any (.slice (some ⟨b2, 0, none⟩) (bkS S1 q1).length cap1) (bkS S1 q1) m _ (BytesAt.keep hby1 (Below.refl _ _)) (cell_keep hm hB)) (fun e w8 hR => ?_)
      obtain ⟨pr2, rfl, hbl4, hpk2, hsh2, hpl2, hpb2⟩ := hR
      refine ⟨_, rfl, ?_⟩
      replace hb1 := Below.old hbl4 hb1
      replace hby1 := hby1.below hbl4
      replace hXp1 := Xs.below hXp1 hbl4
      replace hB := Below.andThen hB hbl4
      have hXp2 := Xs.of_new (B := 0) (M := [some b1]) (K := kPr) hpk2 (fun b hb => .inr (hpb2 b hb)) (fun _ _ => Nat.zero_le _) hml2
      clear hpk2 hpb2 hml2
      refine At.move rfl rfl ?_
      refine At.extract rfl rfl rfl ?_
      refine At.extract rfl rfl rfl ?_
      refine At.extract rfl rfl rfl ?_
      refine At.alloc ze37 rfl (fun b3 w9 F2 => ?_)
      have n_b1_b3 : b1 ≠ b3 := Nat.ne_of_lt (F2.lt hb1)
      have gb3 := F2.ge hB
      replace hb1 := F2.old hb1
      replace hby1 := hby1.fresh F2
      replace hXp1 := Xs.fresh hXp1 F2
      replace hXp2 := Xs.fresh hXp2 F2
      have hb3 : w9.heap[b3]? = some (.cells #[zN, zN, zI, zI, zS, zS, zI, zN, zN, zI, zS, zI, zN, zN, zI, zN, zI, zI, zS, zI, zN, zN, zI] 37) := F2.new
      replace hB := F2.below' hB
      refine At.storeAll rfl rfl hb3 (sz37.trans (congrArg some ((Xs.one hXp2)).size.symm)) ((Xs.one hXp2)).size.symm ((Xs.one hXp2)).one (fun w10 S3 => ?_)
      replace hb1 := S3.other hb1 n_b1_b3
      clear hby1
      replace hXp1 := Xs.set hXp1 S3 (by simp)
      replace hXp2 := Xs.set hXp2 S3 (by simp)
      replace hb3 : w10.heap[b3]? = some (.cells pr2.cs 37) := S3.new
      replace hB := S3.below' hB gb3
      refine At.assign rfl rfl ?_
      refine At.assign rfl rfl ?_
      refine At.ops0 ?_
      refine At.thenN ?_
      refine At.seq ?_
      refine At.seq ?_
      have hbk := brack_facts (S := S1) (by omega) lq1 (p := pr1) (q := pr2) (by simpa using hg1) (by have := hg2; simp at this; omega) (by have := hc1; simp at this; omega) hsh1 hsh2
      refine At.region ?_
      refine At.move rfl rfl ?_
      refine At.eqI rfl rfl rfl ?_
      refine At.ops0 ?_
      refine At.thenN ?_
      refine At.cond (b := decide ((parseR (bkS S1 q1)).2.2 = 6)) rfl (fun hc4 => ?_) (fun hc4 => ?_)
      ·skip
       have hc4' := of_decide_eq_true hc4
       refine At.seq ?_
       refine At.region ?_
       refine At.move rfl rfl ?_
       refine At.move rfl rfl ?_
       refine At.yes rfl rfl rfl rfl ?_
       refine At.move rfl rfl ?_
       refine At.yes rfl rfl rfl rfl ?_
       refine At.gtr rfl rfl rfl ?_
       refine At.pickT rfl rfl rfl ?_
       refine At.assign rfl rfl ?_
       refine At.ops0 ?_
       refine At.thenN ?_
       refine At.retc ?_
       refine At.thenR ?_
       refine At.doneR (ResV.tmp rfl ResV.nil) ?_
       exact ⟨congrArg (fun b => Ending.returned (.bool b)) (by rcases hbk with ⟨_, h⟩ | ⟨h, _⟩; simp [h]; (have := hc4; simp [h] at this)), hB⟩
      ·skip
       have hc4' := of_decide_eq_false hc4
       refine At.skip ?_
       refine At.thenN ?_
       refine At.seq ?_
       obtain ⟨hz, hn2, hv⟩ := hbk.resolve_left (fun h => by have := hc4; simp [h.1] at this)
       refine At.region ?_
       refine At.move rfl rfl ?_
       refine At.move rfl rfl ?_
       refine At.yes rfl rfl rfl rfl ?_
       refine At.move rfl rfl ?_
       refine At.yes rfl rfl rfl rfl ?_
       refine At.eqI rfl rfl rfl ?_
       refine At.pickT rfl rfl rfl ?_
       refine At.move rfl rfl ?_
       have hbb1 : (decide ((parseR (bkS S1 q1)).2.2 = 0)) = true := decide_eq_true hz
       refine At.set (d := 83) (u := .bool true) rfl (congrArg Value.bool hbb1) ?_
       refine At.yes rfl rfl rfl rfl ?_
       refine At.move rfl rfl ?_
       refine At.yes rfl rfl rfl rfl ?_
       refine At.leq rfl rfl rfl ?_
       refine At.pickT rfl rfl rfl ?_
       refine At.move rfl rfl ?_
       have hbb2 : (decide ((q1 : Int) ≤ 200)) = true := decide_eq_true (by omega)
       refine At.set (d := 87) (u := .bool true) rfl (congrArg Value.bool hbb2) ?_
       refine At.yes rfl rfl rfl rfl ?_
       refine At.fieldAddr rfl fo37_2 rfl ?_
       refine At.yes rfl rfl rfl rfl ?_
       refine At.load rfl (Ld.ownPart ag35 (sz35.trans (congrArg some (((Xs.one hXp1)).bodyOk).size.symm)) hb1 ((Xs.one hXp1)).bodyCs) rfl ?_
       refine At.yes rfl rfl rfl rfl ?_
       refine At.fieldAddr rfl fo37_2 rfl ?_
       refine At.yes rfl rfl rfl rfl ?_
       refine At.load rfl (Ld.ownPart ag35 (sz35.trans (congrArg some (((Xs.one hXp2)).bodyOk).size.symm)) hb3 ((Xs.one hXp2)).bodyCs) rfl ?_
       refine At.yes rfl rfl rfl rfl ?_
       refine At.call en14 rfl rfl (same_any _ pr1.body pr2.body (Nat.le_refl _) hv _ ((Xs.one hXp1)).bodyOk ((Xs.one hXp2)).bodyOk) (fun e w11 hR => ?_)
       obtain ⟨rfl, hbl5⟩ := hR
       refine ⟨_, rfl, ?_⟩
       replace hb1 := Below.old hbl5 hb1
       replace hb3 := Below.old hbl5 hb3
       replace hXp1 := Xs.below hXp1 hbl5
       replace hXp2 := Xs.below hXp2 hbl5
       replace hB := Below.andThen hB hbl5
       refine At.pickT rfl rfl rfl ?_
       refine At.assign rfl rfl ?_
       refine At.ops0 ?_
       refine At.thenN ?_
       refine At.retc ?_
       refine At.doneR (ResV.tmp rfl ResV.nil) ?_
       exact ⟨rfl, hB⟩
end Go.Proofs.Ytkjmjnddanhapaa
