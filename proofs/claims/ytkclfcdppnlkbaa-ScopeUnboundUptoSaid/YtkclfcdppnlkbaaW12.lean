/-
  The walks of what the reference knows of free names: what each call does, for every argument that lies so in memory. Written by a program of ours.
-/
import Derived.Test.YtkclfcdppnlkbaaW6
import Derived.Test.YtkclfcdppnlkbaaS12
set_option linter.unusedVariables false
set_option linter.unusedSimpArgs false
namespace Go.Proofs.Ytkclfcdppnlkbaa
open Go.RowKit
theorem en37 : entB Try.prog 37 = true := by kernel_rfl
theorem en38 : entB Try.prog 38 = true := by kernel_rfl
theorem en44 : entB Try.prog 44 = true := by kernel_rfl
theorem en48 : entB Try.prog 48 = true := by kernel_rfl
theorem en49 : entB Try.prog 49 = true := by kernel_rfl
theorem bound_any2 (t : Tm) (i : Nat) (w : World) (ht : TmOk w t) :
    Calls Try.prog 48 ([.agg t.cs, .int .i64 (i : Int)] : List Value).toArray w fun e w' => ∃ v', e = .returned v' ∧ Below w.heap.size w w' ∧ StrsAt w' v' (boundB t.k t.nm t.pm i) := by
  have hB := Below.refl w.heap.size w
  refine At.enter (N := 31) Try.func48 rfl rfl (by simp) [(0, .agg t.cs), (1, .int .i64 (i : Int))] (by simp) ?_
  refine At.seq ?_
  refine At.region ?_
  refine At.box rfl rfl (fun b1 w1 F1 => ?_)
  have gb1 := F1.ge hB
  have hb1 : w1.heap[b1]? = some (.cells t.cs 33) := F1.new
  replace hB := F1.below' hB
  refine At.assign rfl rfl ?_
  refine At.ops0 ?_
  refine At.thenN ?_
  refine At.seq ?_
  refine At.seq ?_
  refine At.region ?_
  refine At.fieldAddr rfl fo33_0 rfl ?_
  refine At.load rfl (Ld.ownCell ag3 hb1 (ht).c0) rfl ?_
  refine At.ops0 ?_
  refine At.thenN ?_
  refine At.block ?_
  refine At.seq ?_
  refine At.region ?_
  refine At.eqI rfl rfl rfl ?_
  refine At.assign rfl rfl ?_
  refine At.ops0 ?_
  refine At.thenN ?_
  refine At.cond (b := decide (t.k = 5)) rfl (fun hc1 => ?_) (fun hc1 => ?_)
  · skip
    have hc1' := of_decide_eq_true hc1
    refine At.seq ?_
    refine At.region ?_
    refine At.fieldAddr rfl fo33_2 rfl ?_
    refine At.load rfl (Ld.ownCell ag9 hb1 (ht).c2) rfl ?_
    refine At.buildSlice (xs := [.tmp 10]) rfl rfl el27 sz9 ze9 (by intro v hv; simp only [List.mem_cons, List.not_mem_nil, or_false] at hv; rcases hv with rfl <;> first | rfl | simp [Value.cells, Value.cells]) rfl (by decide) rfl (fun b2 w2 F2 => ?_)
    have n_b1_b2 : b1 ≠ b2 := Nat.ne_of_lt (F2.lt hb1)
    have gb2 := F2.ge hB
    replace hb1 := F2.old hb1
    have hb2 : w2.heap[b2]? = some (.cells #[.string t.nm] 9) := F2.new
    replace hB := F2.below' hB
    have hs1 : StrsAt w2 (.slice (some ⟨b2, 0, none⟩) 1 1) [t.nm] := StrsAt.own (ss := [t.nm]) hb2 rfl (by decide)
    refine At.assign rfl rfl ?_
    refine At.ops0 ?_
    refine At.thenN ?_
    refine At.retc ?_
    refine At.inR ?_
    refine At.thenR ?_
    refine At.doneR (ResV.tmp rfl ResV.nil) ?_
    have hin : boundB t.k t.nm t.pm i = [t.nm] := by first | (exfalso; omega) | simp only [boundB, hc1, Bool.true_or, Bool.or_true, Bool.false_or, Bool.or_false, Bool.false_and, Bool.true_and, if_true, if_false, Bool.false_eq_true]
    exact ⟨_, rfl, hB, by rw [hin]; exact hs1⟩
  · skip
    have hc1' := of_decide_eq_false hc1
    refine At.seq ?_
    refine At.region ?_
    refine At.eqI rfl rfl rfl ?_
    refine At.assign rfl rfl ?_
    refine At.ops0 ?_
    refine At.thenN ?_
    refine At.cond (b := decide (t.k = 7)) rfl (fun hc2 => ?_) (fun hc2 => ?_)
    · skip
      have hc2' := of_decide_eq_true hc2
      refine At.seq ?_
      refine At.region ?_
      refine At.move rfl rfl ?_
      refine At.eqI rfl rfl rfl ?_
      refine At.ops0 ?_
      refine At.thenN ?_
      refine At.cond (b := decide ((i : Int) = 1)) rfl (fun hc3 => ?_) (fun hc3 => ?_)
      · skip
        have hc3' := of_decide_eq_true hc3
        refine At.seq ?_
        refine At.region ?_
        refine At.fieldAddr rfl fo33_2 rfl ?_
        refine At.load rfl (Ld.ownCell ag9 hb1 (ht).c2) rfl ?_
        refine At.buildSlice (xs := [.tmp 17]) rfl rfl el27 sz9 ze9 (by intro v hv; simp only [List.mem_cons, List.not_mem_nil, or_false] at hv; rcases hv with rfl <;> first | rfl | simp [Value.cells, Value.cells]) rfl (by decide) rfl (fun b3 w3 F3 => ?_)
        have n_b1_b3 : b1 ≠ b3 := Nat.ne_of_lt (F3.lt hb1)
        have gb3 := F3.ge hB
        replace hb1 := F3.old hb1
        have hb3 : w3.heap[b3]? = some (.cells #[.string t.nm] 9) := F3.new
        replace hB := F3.below' hB
        have hs2 : StrsAt w3 (.slice (some ⟨b3, 0, none⟩) 1 1) [t.nm] := StrsAt.own (ss := [t.nm]) hb3 rfl (by decide)
        refine At.assign rfl rfl ?_
        refine At.ops0 ?_
        refine At.thenN ?_
        refine At.retc ?_
        refine At.inR ?_
        refine At.thenR ?_
        refine At.doneR (ResV.tmp rfl ResV.nil) ?_
        have hin : boundB t.k t.nm t.pm i = [t.nm] := by first | (exfalso; omega) | simp only [boundB, hc1, hc2, hc3, Bool.true_or, Bool.or_true, Bool.false_or, Bool.or_false, Bool.false_and, Bool.true_and, if_true, if_false, Bool.false_eq_true]
        exact ⟨_, rfl, hB, by rw [hin]; exact hs2⟩
      · skip
        have hc3' := of_decide_eq_false hc3
        refine At.skip ?_
        refine At.inN ?_
        refine At.thenN ?_
        refine At.seq ?_
        refine At.region ?_
        refine At.assign rfl rfl ?_
        refine At.ops0 ?_
        refine At.thenN ?_
        refine At.retc ?_
        refine At.doneR (ResV.tmp rfl ResV.nil) ?_
        have hin : boundB t.k t.nm t.pm i = ([] : List ByteArray) := by first | (exfalso; omega) | simp only [boundB, hc1, hc2, hc3, Bool.true_or, Bool.or_true, Bool.false_or, Bool.or_false, Bool.false_and, Bool.true_and, if_true, if_false, Bool.false_eq_true]
        exact ⟨_, rfl, hB, by rw [hin]; exact (((StrsAt.nil _)).keep hB)⟩
    · skip
      have hc2' := of_decide_eq_false hc2
      refine At.seq ?_
      refine At.region ?_
      refine At.eqI rfl rfl rfl ?_
      refine At.assign rfl rfl ?_
      refine At.ops0 ?_
      refine At.thenN ?_
      refine At.cond (b := decide (t.k = 8)) rfl (fun hc4 => ?_) (fun hc4 => ?_)
      · skip
        have hc4' := of_decide_eq_true hc4
        refine At.seq ?_
        refine At.seq ?_
        refine At.region ?_
        refine At.move rfl rfl ?_
        refine At.eqI rfl rfl rfl ?_
        refine At.ops0 ?_
        refine At.thenN ?_
        refine At.cond (b := decide ((i : Int) = 0)) rfl (fun hc5 => ?_) (fun hc5 => ?_)
        · skip
          have hc5' := of_decide_eq_true hc5
          refine At.seq ?_
          refine At.region ?_
          refine At.fieldAddr rfl fo33_2 rfl ?_
          refine At.load rfl (Ld.ownCell ag9 hb1 (ht).c2) rfl ?_
          refine At.fieldAddr rfl fo33_3 rfl ?_
          refine At.load rfl (Ld.ownCell ag9 hb1 (ht).c3) rfl ?_
          refine At.buildSlice (xs := [.tmp 24, .tmp 26]) rfl rfl el27 sz9 ze9 (by intro v hv; simp only [List.mem_cons, List.not_mem_nil, or_false] at hv; rcases hv with rfl | rfl <;> first | rfl | simp [Value.cells, Value.cells]) rfl (by decide) rfl (fun b4 w4 F4 => ?_)
          have n_b1_b4 : b1 ≠ b4 := Nat.ne_of_lt (F4.lt hb1)
          have gb4 := F4.ge hB
          replace hb1 := F4.old hb1
          have hb4 : w4.heap[b4]? = some (.cells #[.string t.nm, .string t.pm] 9) := F4.new
          replace hB := F4.below' hB
          have hs3 : StrsAt w4 (.slice (some ⟨b4, 0, none⟩) 2 2) [t.nm, t.pm] := StrsAt.own (ss := [t.nm, t.pm]) hb4 rfl (by decide)
          refine At.assign rfl rfl ?_
          refine At.ops0 ?_
          refine At.thenN ?_
          refine At.retc ?_
          refine At.thenR ?_
          refine At.inR ?_
          refine At.thenR ?_
          refine At.doneR (ResV.tmp rfl ResV.nil) ?_
          have hin : boundB t.k t.nm t.pm i = [t.nm, t.pm] := by first | (exfalso; omega) | simp only [boundB, hc1, hc2, hc4, hc5, Bool.true_or, Bool.or_true, Bool.false_or, Bool.or_false, Bool.false_and, Bool.true_and, if_true, if_false, Bool.false_eq_true]
          exact ⟨_, rfl, hB, by rw [hin]; exact hs3⟩
        · skip
          have hc5' := of_decide_eq_false hc5
          refine At.skip ?_
          refine At.thenN ?_
          refine At.seq ?_
          refine At.region ?_
          refine At.fieldAddr rfl fo33_2 rfl ?_
          refine At.load rfl (Ld.ownCell ag9 hb1 (ht).c2) rfl ?_
          refine At.buildSlice (xs := [.tmp 29]) rfl rfl el27 sz9 ze9 (by intro v hv; simp only [List.mem_cons, List.not_mem_nil, or_false] at hv; rcases hv with rfl <;> first | rfl | simp [Value.cells, Value.cells]) rfl (by decide) rfl (fun b5 w5 F5 => ?_)
          have n_b1_b5 : b1 ≠ b5 := Nat.ne_of_lt (F5.lt hb1)
          have gb5 := F5.ge hB
          replace hb1 := F5.old hb1
          have hb5 : w5.heap[b5]? = some (.cells #[.string t.nm] 9) := F5.new
          replace hB := F5.below' hB
          have hs4 : StrsAt w5 (.slice (some ⟨b5, 0, none⟩) 1 1) [t.nm] := StrsAt.own (ss := [t.nm]) hb5 rfl (by decide)
          refine At.assign rfl rfl ?_
          refine At.ops0 ?_
          refine At.thenN ?_
          refine At.retc ?_
          refine At.inR ?_
          refine At.thenR ?_
          refine At.doneR (ResV.tmp rfl ResV.nil) ?_
          have hin : boundB t.k t.nm t.pm i = [t.nm] := by first | (exfalso; omega) | simp only [boundB, hc1, hc2, hc4, hc5, Bool.true_or, Bool.or_true, Bool.false_or, Bool.or_false, Bool.false_and, Bool.true_and, if_true, if_false, Bool.false_eq_true]
          exact ⟨_, rfl, hB, by rw [hin]; exact hs4⟩
      · skip
        have hc4' := of_decide_eq_false hc4
        refine At.skip ?_
        refine At.inN ?_
        refine At.thenN ?_
        refine At.seq ?_
        refine At.region ?_
        refine At.assign rfl rfl ?_
        refine At.ops0 ?_
        refine At.thenN ?_
        refine At.retc ?_
        refine At.doneR (ResV.tmp rfl ResV.nil) ?_
        have hin : boundB t.k t.nm t.pm i = ([] : List ByteArray) := by first | (exfalso; omega) | simp only [boundB, hc1, hc2, hc4, Bool.true_or, Bool.or_true, Bool.false_or, Bool.or_false, Bool.false_and, Bool.true_and, if_true, if_false, Bool.false_eq_true]
        exact ⟨_, rfl, hB, by rw [hin]; exact (((StrsAt.nil _)).keep hB)⟩
theorem uses_step (s : ByteArray) (t : Tm) (w : World) (ht : TmOk w t) (ih : ∀ (u : Tm), wtT u < wtT t → ∀ (w : World), TmOk w u → Calls Try.prog 38 ([.agg u.cs, .string s] : List Value).toArray w fun e w' => e = .returned (.int .i64 (usesS s u)) ∧ Below w.heap.size w w') :
    Calls Try.prog 38 ([.agg t.cs, .string s] : List Value).toArray w fun e w' => e = .returned (.int .i64 (usesS s t)) ∧ Below w.heap.size w w' := by
  have hkl := ht.kidsAt.lenL
  have hal := ht.armsAt.lenL
  have hB := Below.refl w.heap.size w
  refine At.enter (N := 74) Try.func38 rfl rfl (by simp) [(0, .agg t.cs), (1, .string s)] (by simp) ?_
  refine At.seq ?_
  refine At.region ?_
  refine At.box rfl rfl (fun b1 w1 F1 => ?_)
  have gb1 := F1.ge hB
  have hb1 : w1.heap[b1]? = some (.cells t.cs 33) := F1.new
  replace hB := F1.below' hB
  refine At.assign rfl rfl ?_
  refine At.ops0 ?_
  refine At.thenN ?_
  refine At.seq ?_
  refine At.seq ?_
  refine At.region ?_
  refine At.fieldAddr rfl fo33_0 rfl ?_
  refine At.load rfl (Ld.ownCell ag3 hb1 (ht).c0) rfl ?_
  refine At.eqI rfl rfl rfl ?_
  refine At.ops0 ?_
  refine At.thenN ?_
  refine At.cond (b := decide (t.k = 1)) rfl (fun hc1 => ?_) (fun hc1 => ?_)
  · skip
    have hc1' := of_decide_eq_true hc1
    refine At.seq ?_
    refine At.seq ?_
    refine At.region ?_
    refine At.fieldAddr rfl fo33_2 rfl ?_
    refine At.load rfl (Ld.ownCell ag9 hb1 (ht).c2) rfl ?_
    refine At.move rfl rfl ?_
    refine At.eqS rfl rfl rfl ?_
    refine At.ops0 ?_
    refine At.thenN ?_
    refine At.cond (b := decide (t.nm = s)) rfl (fun hc2 => ?_) (fun hc2 => ?_)
    · skip
      have hc2' := of_decide_eq_true hc2
      refine At.seq ?_
      refine At.region ?_
      refine At.assign rfl rfl ?_
      refine At.ops0 ?_
      refine At.thenN ?_
      refine At.retc ?_
      refine At.thenR ?_
      refine At.thenR ?_
      refine At.doneR (ResV.tmp rfl ResV.nil) ?_
      exact ⟨congrArg Ending.returned (congrArg (Value.int .i64) (by rw [usesS_eq, hc1, hc2]; rfl)), hB⟩
    · skip
      have hc2' := of_decide_eq_false hc2
      refine At.skip ?_
      refine At.thenN ?_
      refine At.seq ?_
      refine At.region ?_
      refine At.assign rfl rfl ?_
      refine At.ops0 ?_
      refine At.thenN ?_
      refine At.retc ?_
      refine At.thenR ?_
      refine At.doneR (ResV.tmp rfl ResV.nil) ?_
      exact ⟨congrArg Ending.returned (congrArg (Value.int .i64) (by rw [usesS_eq, hc1, hc2]; rfl)), hB⟩
  · skip
    have hc1' := of_decide_eq_false hc1
    refine At.skip ?_
    refine At.thenN ?_
    refine At.seq ?_
    refine At.region ?_
    refine At.assign rfl rfl ?_
    refine At.ops0 ?_
    refine At.thenN ?_
    refine At.seq ?_
    refine At.seq ?_
    refine At.region ?_
    refine At.assign rfl rfl ?_
    refine At.ops0 ?_
    refine At.thenN ?_
    refine At.block ?_
    refine At.loop (Nat × Int) (fun (k, c) => [(1, .string s), (2, .pointer (some ⟨b1, 0, none⟩)), (5, .int .i64 c), (6, .int .i64 (k : Int))]) (fun (k, c) w2 => Below w.heap.size w w2 ∧ w2.heap[b1]? = some (.cells t.cs 33) ∧ (k ≤ t.kids.length) ∧ (usesL s t.k t.nm t.pm c k (t.kids.drop k) = usesL s t.k t.nm t.pm 0 0 t.kids)) (fun (k, c) => t.kids.length - k) (0, 0) (Sub.cons rfl (Sub.cons rfl (Sub.cons rfl (Sub.cons rfl Sub.nil)))) ⟨hB, hb1, (Nat.zero_le _), (rfl)⟩ (fun gh w2 hI => ?_)
    obtain ⟨k, c⟩ := gh
    clear hB hb1
    obtain ⟨hB, hb1, hkb, hn⟩ := hI
    show At _ _ [(1, .string s), (2, .pointer (some ⟨b1, 0, none⟩)), (5, .int .i64 c), (6, .int .i64 (k : Int))] _ _
    refine At.seq ?_
    refine At.seq ?_
    refine At.region ?_
    refine At.move rfl rfl ?_
    refine At.fieldAddr rfl fo33_5 rfl ?_
    refine At.load rfl (Ld.ownCell ag24 hb1 (ht).c5) rfl ?_
    refine At.lenSl rfl ((ht).kidsAt).okL el24 rfl ?_
    refine At.lss rfl rfl rfl ?_
    refine At.ops0 ?_
    refine At.thenN ?_
    refine At.cond (b := decide ((k : Int) < (t.kids.length : Int))) rfl (fun hc3 => ?_) (fun hc3 => ?_)
    · skip
      have hc3' := of_decide_eq_true hc3
      refine At.skip ?_
      refine At.thenN ?_
      refine At.seq ?_
      refine At.block ?_
      refine At.seq ?_
      obtain ⟨u1, hu1⟩ := some_of_lt (l := t.kids) (i := k) (by omega)
      have hbl0 := boundB_len t.k t.nm t.pm k
      refine At.region ?_
      refine At.load rfl (Ld.own ag33 (sz33.trans (congrArg some (ht).size.symm)) hb1) rfl ?_
      refine At.move rfl rfl ?_
      refine At.call en48 rfl rfl (bound_any2 t k _ ((ht).keep hB)) (fun e w3 hR => ?_)
      obtain ⟨vs1, rfl, hbl1, hst1⟩ := hR
      refine ⟨_, rfl, ?_⟩
      replace hb1 := Below.old hbl1 hb1
      replace hB := Below.andThen hB hbl1
      refine At.assign rfl rfl ?_
      refine At.ops0 ?_
      refine At.thenN ?_
      refine At.seq ?_
      refine At.region ?_
      refine At.join [(1, .string s), (2, .pointer (some ⟨b1, 0, none⟩)), (5, .int .i64 c), (6, .int .i64 (k : Int)), (33, .bool (decide (s = (⟨#[95]⟩ : ByteArray)) || (!(memB s (boundB t.k t.nm t.pm k)))))] (fun w' => w3 = w') ?_ (fun w4 hS => ?_)
      · skip
        refine At.move rfl rfl ?_
        refine At.eqS rfl rfl rfl ?_
        refine At.move rfl rfl ?_
        refine At.cases (decide (s = (⟨#[95]⟩ : ByteArray))) (fun hg1 => ?_) (fun hg1 => ?_)
        · skip
          refine At.set (d := 28) (u := .bool true) rfl (congrArg Value.bool hg1) ?_
          have hg1' := of_decide_eq_true hg1
          refine At.no rfl rfl rfl rfl rfl rfl rfl ?_
          refine At.no rfl rfl rfl rfl rfl rfl rfl ?_
          refine At.no rfl rfl rfl rfl rfl rfl rfl ?_
          refine At.no rfl rfl rfl rfl rfl rfl rfl ?_
          refine At.pickT rfl rfl rfl ?_
          exact At.joined (Sub.cons rfl (Sub.cons rfl (Sub.cons rfl (Sub.cons rfl (Sub.cons (by show some (Value.bool true) = some (Value.bool (decide (s = (⟨#[95]⟩ : ByteArray)) || (!(memB s (boundB t.k t.nm t.pm k))))); rw [hg1]; rfl) Sub.nil))))) rfl
        · skip
          refine At.set (d := 28) (u := .bool false) rfl (congrArg Value.bool hg1) ?_
          have hg1' := of_decide_eq_false hg1
          refine At.yes rfl rfl rfl rfl ?_
          refine At.move rfl rfl ?_
          refine At.yes rfl rfl rfl rfl ?_
          refine At.move rfl rfl ?_
          refine At.yes rfl rfl rfl rfl ?_
          refine At.call en44 rfl rfl (in_any vs1 (boundB t.k t.nm t.pm k) s _ ((hst1).keep (Below.refl _ _)) (by omega)) (fun e w' hR => ?_)
          obtain ⟨rfl, rfl⟩ := hR
          refine ⟨_, rfl, ?_⟩
          refine At.yes rfl rfl rfl rfl ?_
          refine At.not rfl rfl ?_
          refine At.pickF rfl rfl rfl ?_
          exact At.joined (Sub.cons rfl (Sub.cons rfl (Sub.cons rfl (Sub.cons rfl (Sub.cons (by show some (Value.bool (!(memB s (boundB t.k t.nm t.pm k)))) = some (Value.bool (decide (s = (⟨#[95]⟩ : ByteArray)) || (!(memB s (boundB t.k t.nm t.pm k))))); rw [hg1]; rfl) Sub.nil))))) rfl
      · skip
        subst hS
        refine At.thenN ?_
        refine At.cond (b := (decide (s = (⟨#[95]⟩ : ByteArray)) || (!(memB s (boundB t.k t.nm t.pm k))))) rfl (fun hc4 => ?_) (fun hc4 => ?_)
        · skip
          refine At.region ?_
          refine At.move rfl rfl ?_
          refine At.fieldAddr rfl fo33_5 rfl ?_
          refine At.load rfl (Ld.ownCell ag24 hb1 (ht).c5) rfl ?_
          refine At.move rfl rfl ?_
          refine At.indexAddr (i := k) rfl rfl ((ht).kidsAt).okL (lt_of_some hu1) el24 sz33 rfl ?_
          refine At.load rfl (Ld.row ag33 (sz33.trans (congrArg some (((ht).kid hu1)).size.symm)) ((((ht).kidsAt).row hu1).keep hB)) rfl ?_
          refine At.move rfl rfl ?_
          refine At.call en38 rfl rfl (ih u1 (by have := wt_kid (List.mem_of_getElem? hu1); omega) _ ((((ht).kid hu1)).keep hB)) (fun e w5 hR => ?_)
          obtain ⟨rfl, hbl2⟩ := hR
          refine ⟨_, rfl, ?_⟩
          replace hb1 := Below.old hbl2 hb1
          replace hst1 := hst1.below hbl2
          replace hB := Below.andThen hB hbl2
          refine At.add rfl rfl rfl ?_
          refine At.assign rfl rfl ?_
          refine At.ops0 ?_
          refine At.inN ?_
          refine At.thenN ?_
          refine At.region ?_
          refine At.move rfl rfl ?_
          refine At.addI rfl rfl rfl (by omega) ?_
          refine At.assign rfl rfl ?_
          refine At.ops0 ?_
          refine At.thenN ?_
          exact fun a ha => ⟨((k + 1), IntKind.i64.wrap (c + (usesS s u1))), ha.sub (Sub.cons rfl (Sub.cons rfl (Sub.cons rfl (Sub.cons rfl Sub.nil)))), ⟨hB, hb1, (by omega), (by rw [← hn, usesL_step hu1, show (decide (s = us_) || !memB s (boundB t.k t.nm t.pm k)) = true from hc4]; rfl)⟩, by first | omega | (dsimp only; omega)⟩
        · skip
          refine At.skip ?_
          refine At.inN ?_
          refine At.thenN ?_
          refine At.region ?_
          refine At.move rfl rfl ?_
          refine At.addI rfl rfl rfl (by omega) ?_
          refine At.assign rfl rfl ?_
          refine At.ops0 ?_
          refine At.thenN ?_
          exact fun a ha => ⟨((k + 1), c), ha.sub (Sub.cons rfl (Sub.cons rfl (Sub.cons rfl (Sub.cons rfl Sub.nil)))), ⟨hB, hb1, (by omega), (by rw [← hn, usesL_step hu1, show (decide (s = us_) || !memB s (boundB t.k t.nm t.pm k)) = false from hc4]; rfl)⟩, by first | omega | (dsimp only; omega)⟩
    · skip
      have hc3' := of_decide_eq_false hc3
      refine At.exit ?_
      refine At.thenE ?_
      refine At.thenE ?_
      refine At.inE ?_
      refine At.thenN ?_
      refine At.seq ?_
      refine At.seq ?_
      refine At.region ?_
      refine At.assign rfl rfl ?_
      refine At.ops0 ?_
      refine At.thenN ?_
      refine At.block ?_
      refine At.loop (Nat × Int) (fun (j, c2) => [(1, .string s), (2, .pointer (some ⟨b1, 0, none⟩)), (5, .int .i64 c2), (8, .int .i64 (j : Int))]) (fun (j, c2) w6 => Below w.heap.size w w6 ∧ w6.heap[b1]? = some (.cells t.cs 33) ∧ (j ≤ t.arms.length) ∧ (usesA s c2 (t.arms.drop j) = usesA s c t.arms)) (fun (j, c2) => t.arms.length - j) (0, c) (Sub.cons rfl (Sub.cons rfl (Sub.cons rfl (Sub.cons rfl Sub.nil)))) ⟨hB, hb1, (Nat.zero_le _), (rfl)⟩ (fun gh w6 hI => ?_)
      obtain ⟨j, c2⟩ := gh
      clear hB hb1
      obtain ⟨hB, hb1, hjb, hn2⟩ := hI
      show At _ _ [(1, .string s), (2, .pointer (some ⟨b1, 0, none⟩)), (5, .int .i64 c2), (8, .int .i64 (j : Int))] _ _
      refine At.seq ?_
      refine At.seq ?_
      refine At.region ?_
      refine At.move rfl rfl ?_
      refine At.fieldAddr rfl fo33_6 rfl ?_
      refine At.load rfl (Ld.ownCell ag25 hb1 (ht).c6) rfl ?_
      refine At.lenSl rfl ((ht).armsAt).okL el25 rfl ?_
      refine At.lss rfl rfl rfl ?_
      refine At.ops0 ?_
      refine At.thenN ?_
      refine At.cond (b := decide ((j : Int) < (t.arms.length : Int))) rfl (fun hc5 => ?_) (fun hc5 => ?_)
      · skip
        have hc5' := of_decide_eq_true hc5
        refine At.skip ?_
        refine At.thenN ?_
        refine At.seq ?_
        refine At.block ?_
        refine At.seq ?_
        obtain ⟨u2, hu2⟩ := some_of_lt (l := t.arms) (i := j) (by omega)
        have hvl := ((ht.arm hu2).varsAt).len
        refine At.region ?_
        refine At.join [(1, .string s), (2, .pointer (some ⟨b1, 0, none⟩)), (5, .int .i64 c2), (8, .int .i64 (j : Int)), (62, .bool (decide (s = (⟨#[95]⟩ : ByteArray)) || (!(memB s u2.vars))))] (fun w' => w6 = w') ?_ (fun w7 hS => ?_)
        · skip
          refine At.move rfl rfl ?_
          refine At.eqS rfl rfl rfl ?_
          refine At.move rfl rfl ?_
          refine At.cases (decide (s = (⟨#[95]⟩ : ByteArray))) (fun hg2 => ?_) (fun hg2 => ?_)
          · skip
            refine At.set (d := 52) (u := .bool true) rfl (congrArg Value.bool hg2) ?_
            have hg2' := of_decide_eq_true hg2
            refine At.no rfl rfl rfl rfl rfl rfl rfl ?_
            refine At.no rfl rfl rfl rfl rfl rfl rfl ?_
            refine At.no rfl rfl rfl rfl rfl rfl rfl ?_
            refine At.no rfl rfl rfl rfl rfl rfl rfl ?_
            refine At.no rfl rfl rfl rfl rfl rfl rfl ?_
            refine At.no rfl rfl rfl rfl rfl rfl rfl ?_
            refine At.no rfl rfl rfl rfl rfl rfl rfl ?_
            refine At.no rfl rfl rfl rfl rfl rfl rfl ?_
            refine At.no rfl rfl rfl rfl rfl rfl rfl ?_
            refine At.pickT rfl rfl rfl ?_
            exact At.joined (Sub.cons rfl (Sub.cons rfl (Sub.cons rfl (Sub.cons rfl (Sub.cons (by show some (Value.bool true) = some (Value.bool (decide (s = (⟨#[95]⟩ : ByteArray)) || (!(memB s u2.vars)))); rw [hg2]; rfl) Sub.nil))))) rfl
          · skip
            refine At.set (d := 52) (u := .bool false) rfl (congrArg Value.bool hg2) ?_
            have hg2' := of_decide_eq_false hg2
            refine At.yes rfl rfl rfl rfl ?_
            refine At.fieldAddr rfl fo33_6 rfl ?_
            refine At.yes rfl rfl rfl rfl ?_
            refine At.load rfl (Ld.ownCell ag25 hb1 (ht).c6) rfl ?_
            refine At.yes rfl rfl rfl rfl ?_
            refine At.move rfl rfl ?_
            refine At.yes rfl rfl rfl rfl ?_
            refine At.indexAddr (i := j) rfl rfl ((ht).armsAt).okL (lt_of_some hu2) el25 sz71 rfl ?_
            refine At.yes rfl rfl rfl rfl ?_
            refine At.fieldAddr rfl fo71_1 rfl ?_
            refine At.yes rfl rfl rfl rfl ?_
            refine At.load rfl (Ld.cell ag27 (cell_keep ((((ht).armsAt).row hu2).get (((ht).arm hu2)).c1) hB)) rfl ?_
            refine At.yes rfl rfl rfl rfl ?_
            refine At.move rfl rfl ?_
            refine At.yes rfl rfl rfl rfl ?_
            refine At.call en44 rfl rfl (in_any u2.vv u2.vars s _ (((((ht).arm hu2)).varsAt).keep hB) (by omega)) (fun e w' hR => ?_)
            obtain ⟨rfl, rfl⟩ := hR
            refine ⟨_, rfl, ?_⟩
            refine At.yes rfl rfl rfl rfl ?_
            refine At.not rfl rfl ?_
            refine At.pickF rfl rfl rfl ?_
            exact At.joined (Sub.cons rfl (Sub.cons rfl (Sub.cons rfl (Sub.cons rfl (Sub.cons (by show some (Value.bool (!(memB s u2.vars))) = some (Value.bool (decide (s = (⟨#[95]⟩ : ByteArray)) || (!(memB s u2.vars)))); rw [hg2]; rfl) Sub.nil))))) rfl
        · skip
          subst hS
          refine At.thenN ?_
          refine At.cond (b := (decide (s = (⟨#[95]⟩ : ByteArray)) || (!(memB s u2.vars)))) rfl (fun hc6 => ?_) (fun hc6 => ?_)
          · skip
            refine At.region ?_
            refine At.move rfl rfl ?_
            refine At.fieldAddr rfl fo33_6 rfl ?_
            refine At.load rfl (Ld.ownCell ag25 hb1 (ht).c6) rfl ?_
            refine At.move rfl rfl ?_
            refine At.indexAddr (i := j) rfl rfl ((ht).armsAt).okL (lt_of_some hu2) el25 sz71 rfl ?_
            refine At.fieldAddr rfl fo71_2 rfl ?_
            refine At.load rfl (Ld.row ag33 (sz33.trans (congrArg some ((((ht).arm hu2)).body).size.symm)) (((((ht).armsAt).row hu2).part 2 (((ht).arm hu2)).bodyCs).keep hB)) rfl ?_
            refine At.move rfl rfl ?_
            refine At.call en38 rfl rfl (ih u2.body (by have := wt_arm (List.mem_of_getElem? hu2); omega) _ (((((ht).arm hu2)).body).keep hB)) (fun e w8 hR => ?_)
            obtain ⟨rfl, hbl3⟩ := hR
            refine ⟨_, rfl, ?_⟩
            replace hb1 := Below.old hbl3 hb1
            replace hB := Below.andThen hB hbl3
            refine At.add rfl rfl rfl ?_
            refine At.assign rfl rfl ?_
            refine At.ops0 ?_
            refine At.inN ?_
            refine At.thenN ?_
            refine At.region ?_
            refine At.move rfl rfl ?_
            refine At.addI rfl rfl rfl (by omega) ?_
            refine At.assign rfl rfl ?_
            refine At.ops0 ?_
            refine At.thenN ?_
            exact fun a ha => ⟨((j + 1), IntKind.i64.wrap (c2 + (usesS s u2.body))), ha.sub (Sub.cons rfl (Sub.cons rfl (Sub.cons rfl (Sub.cons rfl Sub.nil)))), ⟨hB, hb1, (by omega), (by rw [← hn2, usesA_step hu2, show (decide (s = us_) || !memB s u2.vars) = true from hc6]; rfl)⟩, by first | omega | (dsimp only; omega)⟩
          · skip
            refine At.skip ?_
            refine At.inN ?_
            refine At.thenN ?_
            refine At.region ?_
            refine At.move rfl rfl ?_
            refine At.addI rfl rfl rfl (by omega) ?_
            refine At.assign rfl rfl ?_
            refine At.ops0 ?_
            refine At.thenN ?_
            exact fun a ha => ⟨((j + 1), c2), ha.sub (Sub.cons rfl (Sub.cons rfl (Sub.cons rfl (Sub.cons rfl Sub.nil)))), ⟨hB, hb1, (by omega), (by rw [← hn2, usesA_step hu2, show (decide (s = us_) || !memB s u2.vars) = false from hc6]; rfl)⟩, by first | omega | (dsimp only; omega)⟩
      · skip
        have hc5' := of_decide_eq_false hc5
        refine At.exit ?_
        refine At.thenE ?_
        refine At.thenE ?_
        refine At.inE ?_
        refine At.thenN ?_
        refine At.seq ?_
        refine At.region ?_
        refine At.move rfl rfl ?_
        refine At.assign rfl rfl ?_
        refine At.ops0 ?_
        refine At.thenN ?_
        refine At.retc ?_
        refine At.doneR (ResV.tmp rfl ResV.nil) ?_
        have hk1 : usesL s t.k t.nm t.pm 0 0 t.kids = c := by rw [← hn, List.drop_eq_nil_of_le (by omega)]; rfl
        exact ⟨congrArg Ending.returned (congrArg (Value.int .i64) (by rw [usesS_eq, hc1, hk1, ← hn2, List.drop_eq_nil_of_le (by omega)]; rfl)), hB⟩
theorem uses_any (s : ByteArray) (t : Tm) (w : World) (ht : TmOk w t) : Calls Try.prog 38 ([.agg t.cs, .string s] : List Value).toArray w fun e w' => e = .returned (.int .i64 (usesS s t)) ∧ Below w.heap.size w w' := by
  have key : ∀ (n : Nat) (t : Tm), wtT t = n → ∀ (w : World), TmOk w t → Calls Try.prog 38 ([.agg t.cs, .string s] : List Value).toArray w fun e w' => e = .returned (.int .i64 (usesS s t)) ∧ Below w.heap.size w w' := by
    intro n
    induction n using Nat.strongRecOn with
    | _ n ih => intro t hn w h; exact uses_step s t w h (fun u hu => ih (wtT u) (hn ▸ hu) u rfl)
  exact key _ t rfl w ht
theorem join_any (v u : Value) (la lb : List ByteArray) (w : World) (hv : StrsAt w v la) (hu : StrsAt w u lb) (hl : la.length + lb.length ≤ 4398046511104) :
    Calls Try.prog 49 ([v, u] : List Value).toArray w fun e w' => ∃ v' l', e = .returned v' ∧ Below w.heap.size w w' ∧ StrsAt w' v' l' ∧ (∀ x, memB x l' = (memB x la || memB x lb)) ∧ l'.length ≤ la.length + lb.length := by
  have hB := Below.refl w.heap.size w
  refine At.enter (N := 63) Try.func49 rfl rfl (by simp) [(0, v), (1, u)] (by simp) ?_
  refine At.seq ?_
  refine At.region ?_
  refine At.assign rfl rfl ?_
  refine At.ops0 ?_
  refine At.thenN ?_
  refine At.seq ?_
  refine At.region ?_
  refine At.move rfl rfl ?_
  refine At.assign rfl rfl ?_
  refine At.ops0 ?_
  refine At.thenN ?_
  refine At.seq ?_
  refine At.seq ?_
  refine At.region ?_
  refine At.assign rfl rfl ?_
  refine At.ops0 ?_
  refine At.thenN ?_
  refine At.block ?_
  refine At.loop (Nat × Value × List ByteArray) (fun (i, vo, lo) => [(1, u), (5, vo), (6, .int .i64 (i : Int))]) (fun (i, vo, lo) w1 => Below w.heap.size w w1 ∧ StrsAt w1 vo lo ∧ (i ≤ lb.length) ∧ (lo.length ≤ la.length + i) ∧ (∀ x, memB x lo = (memB x la || memB x (lb.take i)))) (fun (i, vo, lo) => lb.length - i) (0, v, la) (Sub.cons rfl (Sub.cons rfl (Sub.cons rfl Sub.nil))) ⟨hB, hv.keep hB, (Nat.zero_le _), (Nat.le_refl _), (fun x => by simp [memB])⟩ (fun gh w1 hI => ?_)
  obtain ⟨i, vo, lo⟩ := gh
  clear hB
  obtain ⟨hB, hso, hib, hlen, hmem⟩ := hI
  show At _ _ [(1, u), (5, vo), (6, .int .i64 (i : Int))] _ _
  refine At.seq ?_
  refine At.seq ?_
  refine At.region ?_
  refine At.move rfl rfl ?_
  refine At.move rfl rfl ?_
  refine At.lenSl rfl (hu).ok el27 rfl ?_
  refine At.lss rfl rfl rfl ?_
  refine At.ops0 ?_
  refine At.thenN ?_
  refine At.cond (b := decide ((i : Int) < (lb.length : Int))) rfl (fun hc1 => ?_) (fun hc1 => ?_)
  · skip
    have hc1' := of_decide_eq_true hc1
    refine At.skip ?_
    refine At.thenN ?_
    refine At.seq ?_
    refine At.block ?_
    refine At.seq ?_
    refine At.region ?_
    refine At.assign rfl rfl ?_
    refine At.ops0 ?_
    refine At.thenN ?_
    refine At.seq ?_
    refine At.block ?_
    refine At.loop (Nat) (fun k => [(1, u), (5, vo), (6, .int .i64 (i : Int)), (7, .int .i64 (k : Int))]) (fun k w2 => Below w.heap.size w w2 ∧ StrsAt w2 vo lo ∧ (k ≤ lo.length)) (fun k => lo.length - k) (0 : Nat) (Sub.cons rfl (Sub.cons rfl (Sub.cons rfl (Sub.cons rfl Sub.nil)))) ⟨hB, hso, (Nat.zero_le _)⟩ (fun k w2 hI => ?_)
    clear hB hso
    obtain ⟨hB, hso, hkb⟩ := hI
    show At _ _ [(1, u), (5, vo), (6, .int .i64 (i : Int)), (7, .int .i64 (k : Int))] _ _
    refine At.seq ?_
    refine At.seq ?_
    obtain ⟨uB, huB⟩ := some_of_lt (l := lb) (i := i) (by omega)
    refine At.cases (decide ((k : Int) < (lo.length : Int))) (fun hg1 => ?_) (fun hg1 => ?_)
    · skip
      have hg1' := of_decide_eq_true hg1
      obtain ⟨u1, hu1⟩ := some_of_lt (l := lo) (i := k) (by first | omega | (simp only [List.length_append, List.length_take, List.length_drop, List.length_cons, List.length_nil]; omega))
      refine At.drawG (n := 15) mixed (by kernel_rfl) rfl (PanicOk.then (PanicOk.then (PanicOk.then (PanicOk.block (PanicOk.then (PanicOk.block (PanicOk.then (PanicOk.then (PanicOk.block (PanicOk.then PanicOk.body)))))))))) ?_
      have hB := Below.drewB hB
      have hso := hso.drew
      refine At.wpcS (i := 0) (d := 15) (.int .i64 (k : Int)) (by kernel_rfl) rfl rfl rfl (fun Lx => ?_) ?_
      · skip
        refine At.move rfl rfl ?_
        refine At.ops0 ?_
        exact fun a ha => ⟨ha, rfl⟩
      refine At.wpcS (i := 1) (d := 16) (vo) (by kernel_rfl) rfl rfl rfl (fun Lx => ?_) ?_
      · skip
        refine At.move rfl rfl ?_
        refine At.ops0 ?_
        exact fun a ha => ⟨ha, rfl⟩
      refine At.wpcS (i := 2) (d := 17) (.int .i64 (lo.length : Int)) (by kernel_rfl) rfl rfl rfl (fun Lx => ?_) ?_
      · skip
        refine At.lenSl rfl (hso).ok el27 rfl ?_
        refine At.ops0 ?_
        exact fun a ha => ⟨ha, rfl⟩
      refine At.wpcS (i := 3) (d := 18) (.bool (decide ((k : Int) < (lo.length : Int)))) (by kernel_rfl) rfl rfl rfl (fun Lx => ?_) ?_
      · skip
        refine At.lss rfl rfl rfl ?_
        refine At.ops0 ?_
        exact fun a ha => ⟨ha, rfl⟩
      refine At.set (d := 18) (u := .bool true) rfl (congrArg Value.bool hg1) ?_
      refine At.wpcS (i := 4) (d := 19) (.bool true) (by kernel_rfl) rfl rfl rfl (fun Lx => ?_) ?_
      · skip
        refine At.move rfl rfl ?_
        refine At.ops0 ?_
        exact fun a ha => ⟨ha, rfl⟩
      refine At.wpcS (i := 5) (d := 20) (vo) (by kernel_rfl) rfl rfl rfl (fun Lx => ?_) ?_
      · skip
        refine At.yes rfl rfl rfl rfl ?_
        refine At.move rfl rfl ?_
        refine At.ops0 ?_
        exact fun a ha => ⟨ha, rfl⟩
      refine At.wpcS (i := 6) (d := 21) (.int .i64 (k : Int)) (by kernel_rfl) rfl rfl rfl (fun Lx => ?_) ?_
      · skip
        refine At.yes rfl rfl rfl rfl ?_
        refine At.move rfl rfl ?_
        refine At.ops0 ?_
        exact fun a ha => ⟨ha, rfl⟩
      refine At.wpcS (i := 7) (d := 22) (.pointer (some ⟨vBlock vo, vOff vo + k * 1, none⟩)) (by kernel_rfl) rfl rfl rfl (fun Lx => ?_) ?_
      · skip
        refine At.yes rfl rfl rfl rfl ?_
        refine At.indexAddr (i := k) rfl rfl (hso).ok (lt_of_some hu1) el27 sz9 rfl ?_
        refine At.ops0 ?_
        exact fun a ha => ⟨ha, rfl⟩
      refine At.wpcS (i := 8) (d := 23) (.string u1) (by kernel_rfl) rfl rfl rfl (fun Lx => ?_) ?_
      · skip
        refine At.yes rfl rfl rfl rfl ?_
        refine At.load rfl (Ld.cell ag9 (cell_keep ((hso).get hu1) (Below.refl _ _))) rfl ?_
        refine At.ops0 ?_
        exact fun a ha => ⟨ha, rfl⟩
      refine At.wpcS (i := 9) (d := 24) (u) (by kernel_rfl) rfl rfl rfl (fun Lx => ?_) ?_
      · skip
        refine At.yes rfl rfl rfl rfl ?_
        refine At.move rfl rfl ?_
        refine At.ops0 ?_
        exact fun a ha => ⟨ha, rfl⟩
      refine At.wpcS (i := 10) (d := 25) (.int .i64 (i : Int)) (by kernel_rfl) rfl rfl rfl (fun Lx => ?_) ?_
      · skip
        refine At.yes rfl rfl rfl rfl ?_
        refine At.move rfl rfl ?_
        refine At.ops0 ?_
        exact fun a ha => ⟨ha, rfl⟩
      refine At.wpcS (i := 11) (d := 26) (.pointer (some ⟨vBlock u, vOff u + i * 1, none⟩)) (by kernel_rfl) rfl rfl rfl (fun Lx => ?_) ?_
      · skip
        refine At.yes rfl rfl rfl rfl ?_
        refine At.indexAddr (i := i) rfl rfl (hu).ok (lt_of_some huB) el27 sz9 rfl ?_
        refine At.ops0 ?_
        exact fun a ha => ⟨ha, rfl⟩
      refine At.wpcS (i := 12) (d := 27) (.string uB) (by kernel_rfl) rfl rfl rfl (fun Lx => ?_) ?_
      · skip
        refine At.yes rfl rfl rfl rfl ?_
        refine At.load rfl (Ld.cell ag9 (cell_keep ((hu).get huB) hB)) rfl ?_
        refine At.ops0 ?_
        exact fun a ha => ⟨ha, rfl⟩
      refine At.wpcS (i := 13) (d := 28) (.bool (Op.bytesLess u1.toList uB.toList)) (by kernel_rfl) rfl rfl rfl (fun Lx => ?_) ?_
      · skip
        refine At.yes rfl rfl rfl rfl ?_
        refine At.ltS rfl rfl rfl ?_
        refine At.ops0 ?_
        exact fun a ha => ⟨ha, rfl⟩
      refine At.wpcS (i := 14) (d := 29) (.bool (Op.bytesLess u1.toList uB.toList)) (by kernel_rfl) rfl rfl rfl (fun Lx => ?_) ?_
      · skip
        refine At.pickT rfl rfl rfl ?_
        refine At.ops0 ?_
        exact fun a ha => ⟨ha, rfl⟩
      refine At.wpcZ ?_
      refine At.thenN ?_
      refine At.cond (b := (Op.bytesLess u1.toList uB.toList)) rfl (fun hc2 => ?_) (fun hc2 => ?_)
      · skip
        refine At.skip ?_
        refine At.thenN ?_
        refine At.block ?_
        refine At.region ?_
        refine At.move rfl rfl ?_
        refine At.addI rfl rfl rfl (by first | omega | (simp only [List.length_append, List.length_take, List.length_drop, List.length_cons, List.length_nil]; omega)) ?_
        refine At.assign rfl rfl ?_
        refine At.ops0 ?_
        refine At.inN ?_
        refine At.thenN ?_
        exact fun a ha => ⟨(k + 1), ha.sub (Sub.cons rfl (Sub.cons rfl (Sub.cons rfl (Sub.cons rfl Sub.nil)))), ⟨hB, hso, (by omega)⟩, by first | omega | (dsimp only; omega)⟩
      · skip
        refine At.exit ?_
        refine At.thenE ?_
        refine At.thenE ?_
        refine At.inE ?_
        refine At.thenN ?_
        refine At.seq ?_
        obtain ⟨uB, huB⟩ := some_of_lt (l := lb) (i := i) (by omega)
        refine At.cases (decide ((k : Int) = (lo.length : Int))) (fun hg2 => ?_) (fun hg2 => ?_)
        · skip
          have hg2' := of_decide_eq_true hg2
          refine At.drawG (n := 15) mixed (by kernel_rfl) rfl (PanicOk.then (PanicOk.block (PanicOk.then (PanicOk.then (PanicOk.block (PanicOk.then PanicOk.body)))))) ?_
          have hB := Below.drewB hB
          have hso := hso.drew
          refine At.wpcS (i := 0) (d := 32) (.int .i64 (k : Int)) (by kernel_rfl) rfl rfl rfl (fun Lx => ?_) ?_
          · skip
            refine At.move rfl rfl ?_
            refine At.ops0 ?_
            exact fun a ha => ⟨ha, rfl⟩
          refine At.wpcS (i := 1) (d := 33) (vo) (by kernel_rfl) rfl rfl rfl (fun Lx => ?_) ?_
          · skip
            refine At.move rfl rfl ?_
            refine At.ops0 ?_
            exact fun a ha => ⟨ha, rfl⟩
          refine At.wpcS (i := 2) (d := 34) (.int .i64 (lo.length : Int)) (by kernel_rfl) rfl rfl rfl (fun Lx => ?_) ?_
          · skip
            refine At.lenSl rfl (hso).ok el27 rfl ?_
            refine At.ops0 ?_
            exact fun a ha => ⟨ha, rfl⟩
          refine At.wpcS (i := 3) (d := 35) (.bool (decide ((k : Int) = (lo.length : Int)))) (by kernel_rfl) rfl rfl rfl (fun Lx => ?_) ?_
          · skip
            refine At.eqI rfl rfl rfl ?_
            refine At.ops0 ?_
            exact fun a ha => ⟨ha, rfl⟩
          refine At.set (d := 35) (u := .bool true) rfl (congrArg Value.bool hg2) ?_
          refine At.wpcS (i := 4) (d := 36) (.bool true) (by kernel_rfl) rfl rfl rfl (fun Lx => ?_) ?_
          · skip
            refine At.move rfl rfl ?_
            refine At.ops0 ?_
            exact fun a ha => ⟨ha, rfl⟩
          refine At.wpcS (i := 5) (d := 37) (undef) (by kernel_rfl) rfl rfl rfl (fun Lx => ?_) ?_
          · skip
            refine At.no rfl rfl rfl rfl rfl rfl rfl ?_
            refine At.ops0 ?_
            exact fun a ha => ⟨ha, rfl⟩
          refine At.wpcS (i := 6) (d := 38) (undef) (by kernel_rfl) rfl rfl rfl (fun Lx => ?_) ?_
          · skip
            refine At.no rfl rfl rfl rfl rfl rfl rfl ?_
            refine At.ops0 ?_
            exact fun a ha => ⟨ha, rfl⟩
          refine At.wpcS (i := 7) (d := 39) (undef) (by kernel_rfl) rfl rfl rfl (fun Lx => ?_) ?_
          · skip
            refine At.no rfl rfl rfl rfl rfl rfl rfl ?_
            refine At.ops0 ?_
            exact fun a ha => ⟨ha, rfl⟩
          refine At.wpcS (i := 8) (d := 40) (undef) (by kernel_rfl) rfl rfl rfl (fun Lx => ?_) ?_
          · skip
            refine At.no rfl rfl rfl rfl rfl rfl rfl ?_
            refine At.ops0 ?_
            exact fun a ha => ⟨ha, rfl⟩
          refine At.wpcS (i := 9) (d := 41) (undef) (by kernel_rfl) rfl rfl rfl (fun Lx => ?_) ?_
          · skip
            refine At.no rfl rfl rfl rfl rfl rfl rfl ?_
            refine At.ops0 ?_
            exact fun a ha => ⟨ha, rfl⟩
          refine At.wpcS (i := 10) (d := 42) (undef) (by kernel_rfl) rfl rfl rfl (fun Lx => ?_) ?_
          · skip
            refine At.no rfl rfl rfl rfl rfl rfl rfl ?_
            refine At.ops0 ?_
            exact fun a ha => ⟨ha, rfl⟩
          refine At.wpcS (i := 11) (d := 43) (undef) (by kernel_rfl) rfl rfl rfl (fun Lx => ?_) ?_
          · skip
            refine At.no rfl rfl rfl rfl rfl rfl rfl ?_
            refine At.ops0 ?_
            exact fun a ha => ⟨ha, rfl⟩
          refine At.wpcS (i := 12) (d := 44) (undef) (by kernel_rfl) rfl rfl rfl (fun Lx => ?_) ?_
          · skip
            refine At.no rfl rfl rfl rfl rfl rfl rfl ?_
            refine At.ops0 ?_
            exact fun a ha => ⟨ha, rfl⟩
          refine At.wpcS (i := 13) (d := 45) (undef) (by kernel_rfl) rfl rfl rfl (fun Lx => ?_) ?_
          · skip
            refine At.no rfl rfl rfl rfl rfl rfl rfl ?_
            refine At.ops0 ?_
            exact fun a ha => ⟨ha, rfl⟩
          refine At.wpcS (i := 14) (d := 46) (.bool true) (by kernel_rfl) rfl rfl rfl (fun Lx => ?_) ?_
          · skip
            refine At.pickT rfl rfl rfl ?_
            refine At.ops0 ?_
            exact fun a ha => ⟨ha, rfl⟩
          refine At.wpcZ ?_
          refine At.thenN ?_
          refine At.condT rfl ?_
          refine At.joinG (ι := Value) (fun va3 => [(1, u), (5, va3), (6, .int .i64 (i : Int))]) (fun va3 w8 => (Below w.heap.size w w8) ∧ (OwnS 9 w8 va3 ((([] ++ (lo.take k)) ++ [uB]) ++ (lo.drop k))) ∧ (∀ g, va3.ownBlock = some g → w.heap.size ≤ g)) ?_ (fun va3 w8 hS => ?_)
          · skip
            have hle2 : k ≤ lo.length := by first | omega | (simp only [List.length_append, List.length_take, List.length_drop, List.length_cons, List.length_nil]; omega)
            refine At.drawG (n := 16) mixed (by kernel_rfl) rfl (PanicOk.norm (PanicOk.block (PanicOk.then (PanicOk.then (PanicOk.block (PanicOk.then PanicOk.body)))))) ?_
            have hB := Below.drewB hB
            have hso := hso.drew
            refine At.wpcS (i := 1) (d := 48) (vo) (by kernel_rfl) rfl rfl rfl (fun Lx => ?_) ?_
            · skip
              refine At.move rfl rfl ?_
              refine At.ops0 ?_
              exact fun a ha => ⟨ha, rfl⟩
            refine At.wpcS (i := 2) (d := 49) (.int .i64 (k : Int)) (by kernel_rfl) rfl rfl rfl (fun Lx => ?_) ?_
            · skip
              refine At.move rfl rfl ?_
              refine At.ops0 ?_
              exact fun a ha => ⟨ha, rfl⟩
            refine At.wpcS (i := 3) (d := 50) ((takeV vo k)) (by kernel_rfl) rfl rfl rfl (fun Lx => ?_) ?_
            · skip
              refine At.sliceTo (h := k) rfl rfl (hso).ok el27 sz9 hle2 rfl ?_
              refine At.ops0 ?_
              exact fun a ha => ⟨ha, rfl⟩
            refine At.wpcS (i := 5) (d := 52) (u) (by kernel_rfl) rfl rfl rfl (fun Lx => ?_) ?_
            · skip
              refine At.move rfl rfl ?_
              refine At.ops0 ?_
              exact fun a ha => ⟨ha, rfl⟩
            refine At.wpcS (i := 6) (d := 53) (.int .i64 (i : Int)) (by kernel_rfl) rfl rfl rfl (fun Lx => ?_) ?_
            · skip
              refine At.move rfl rfl ?_
              refine At.ops0 ?_
              exact fun a ha => ⟨ha, rfl⟩
            refine At.wpcS (i := 7) (d := 54) (.pointer (some ⟨vBlock u, vOff u + i * 1, none⟩)) (by kernel_rfl) rfl rfl rfl (fun Lx => ?_) ?_
            · skip
              refine At.indexAddr (i := i) rfl rfl (hu).ok (lt_of_some huB) el27 sz9 rfl ?_
              refine At.ops0 ?_
              exact fun a ha => ⟨ha, rfl⟩
            refine At.wpcS (i := 8) (d := 55) (.string uB) (by kernel_rfl) rfl rfl rfl (fun Lx => ?_) ?_
            · skip
              refine At.load rfl (Ld.cell ag9 (cell_keep ((hu).get huB) hB)) rfl ?_
              refine At.ops0 ?_
              exact fun a ha => ⟨ha, rfl⟩
            refine At.wpcS (i := 11) (d := 58) (vo) (by kernel_rfl) rfl rfl rfl (fun Lx => ?_) ?_
            · skip
              refine At.move rfl rfl ?_
              refine At.ops0 ?_
              exact fun a ha => ⟨ha, rfl⟩
            refine At.wpcS (i := 12) (d := 59) (.int .i64 (k : Int)) (by kernel_rfl) rfl rfl rfl (fun Lx => ?_) ?_
            · skip
              refine At.move rfl rfl ?_
              refine At.ops0 ?_
              exact fun a ha => ⟨ha, rfl⟩
            refine At.wpcS (i := 13) (d := 60) ((dropV 1 vo k)) (by kernel_rfl) rfl rfl rfl (fun Lx => ?_) ?_
            · skip
              refine At.sliceFrom (h := k) rfl rfl (hso).ok el27 sz9 hle2 rfl ?_
              refine At.ops0 ?_
              exact fun a ha => ⟨ha, rfl⟩
            refine At.wpcE [0, 9] (by kernel_rfl) (by kernel_rfl) (.cons [1, 2, 3, 5, 6, 7, 8, 11, 12, 13] rfl (by kernel_rfl) ?_ (.cons [1, 2, 3, 11, 12, 13] rfl (by kernel_rfl) ?_ .nil))
            · skip
              refine At.buildSlice (xs := []) rfl rfl el27 sz9 ze9 (by simp) rfl (by decide) rfl (fun b3 w9 F3 => ?_)
              have gb3 := F3.ge hB
              have has5 := ApartS.fresh (n := 0) (c := 0) hso F3
              replace hso := hso.fresh F3
              have hb3 : w9.heap[b3]? = some (.cells #[] 9) := F3.new
              replace hB := F3.below' hB
              have hO5 : OwnS 9 w9 (.slice (some ⟨b3, 0, none⟩) 0 0) [] := OwnS.made (ss := []) hb3 rfl (by decide)
              have ghO5 : ∀ g, Value.ownBlock (.slice (some ⟨b3, 0, none⟩) 0 0) = some g → w.heap.size ≤ g := fun g h => by cases h; exact gb3
              clear hb3
              refine At.ops0 ?_
              refine At.wpcN (.cons rfl rfl rfl rfl (fun Lx => ?_) (.cons rfl rfl rfl rfl (fun Lx => ?_) (.cons rfl rfl rfl rfl (fun Lx => ?_) (.cons rfl rfl rfl rfl (fun Lx => ?_) (.cons rfl rfl rfl rfl (fun Lx => ?_) (.cons rfl rfl rfl rfl (fun Lx => ?_) (.cons rfl rfl rfl rfl (fun Lx => ?_) (.cons rfl rfl rfl rfl (fun Lx => ?_) (.cons rfl rfl rfl rfl (fun Lx => ?_) (.cons rfl rfl rfl rfl (fun Lx => ?_) .nil)))))))))) ?_
              · skip
                refine At.move rfl rfl ?_
                refine At.ops0 ?_
                exact fun a ha => ⟨ha, rfl⟩
              · skip
                refine At.move rfl rfl ?_
                refine At.ops0 ?_
                exact fun a ha => ⟨ha, rfl⟩
              · skip
                refine At.sliceTo (h := k) rfl rfl (hso).ok el27 sz9 hle2 rfl ?_
                refine At.ops0 ?_
                exact fun a ha => ⟨ha, rfl⟩
              · skip
                refine At.move rfl rfl ?_
                refine At.ops0 ?_
                exact fun a ha => ⟨ha, rfl⟩
              · skip
                refine At.move rfl rfl ?_
                refine At.ops0 ?_
                exact fun a ha => ⟨ha, rfl⟩
              · skip
                refine At.indexAddr (i := i) rfl rfl (hu).ok (lt_of_some huB) el27 sz9 rfl ?_
                refine At.ops0 ?_
                exact fun a ha => ⟨ha, rfl⟩
              · skip
                refine At.load rfl (Ld.cell ag9 (cell_keep ((hu).get huB) hB)) rfl ?_
                refine At.ops0 ?_
                exact fun a ha => ⟨ha, rfl⟩
              · skip
                refine At.move rfl rfl ?_
                refine At.ops0 ?_
                exact fun a ha => ⟨ha, rfl⟩
              · skip
                refine At.move rfl rfl ?_
                refine At.ops0 ?_
                exact fun a ha => ⟨ha, rfl⟩
              · skip
                refine At.sliceFrom (h := k) rfl rfl (hso).ok el27 sz9 hle2 rfl ?_
                refine At.ops0 ?_
                exact fun a ha => ⟨ha, rfl⟩
              refine At.wpcE [4, 9] (by kernel_rfl) (by kernel_rfl) (.cons [5, 6, 7, 8, 11, 12, 13] rfl (by kernel_rfl) ?_ (.cons [1, 2, 3, 11, 12, 13] rfl (by kernel_rfl) ?_ .nil))
              · skip
                refine At.appendS (ss := []) rfl rfl el27 el27 sz9 by9 ze9 rfl hO5 (((StrsAt.take hso hle2)).keep (Below.refl _ _)) (by first | omega | (simp only [List.length_append, List.length_take, List.length_drop, List.length_cons, List.length_nil]; omega)) rfl (fun va4 w10 hO6 hA4 => ?_)
                have has6 := ApartS.app has5 hA4 hso
                replace hso := AppR.strs hA4 hso has5
                have ghO6 := hA4.ge hB.size ghO5
                replace hB := hA4.below hB hB.size ghO5
                refine At.ops0 ?_
                refine At.wpcN (.cons rfl rfl rfl rfl (fun Lx => ?_) (.cons rfl rfl rfl rfl (fun Lx => ?_) (.cons rfl rfl rfl rfl (fun Lx => ?_) (.cons rfl rfl rfl rfl (fun Lx => ?_) (.cons rfl rfl rfl rfl (fun Lx => ?_) (.cons rfl rfl rfl rfl (fun Lx => ?_) (.cons rfl rfl rfl rfl (fun Lx => ?_) .nil))))))) ?_
                · skip
                  refine At.move rfl rfl ?_
                  refine At.ops0 ?_
                  exact fun a ha => ⟨ha, rfl⟩
                · skip
                  refine At.move rfl rfl ?_
                  refine At.ops0 ?_
                  exact fun a ha => ⟨ha, rfl⟩
                · skip
                  refine At.indexAddr (i := i) rfl rfl (hu).ok (lt_of_some huB) el27 sz9 rfl ?_
                  refine At.ops0 ?_
                  exact fun a ha => ⟨ha, rfl⟩
                · skip
                  refine At.load rfl (Ld.cell ag9 (cell_keep ((hu).get huB) hB)) rfl ?_
                  refine At.ops0 ?_
                  exact fun a ha => ⟨ha, rfl⟩
                · skip
                  refine At.move rfl rfl ?_
                  refine At.ops0 ?_
                  exact fun a ha => ⟨ha, rfl⟩
                · skip
                  refine At.move rfl rfl ?_
                  refine At.ops0 ?_
                  exact fun a ha => ⟨ha, rfl⟩
                · skip
                  refine At.sliceFrom (h := k) rfl rfl (hso).ok el27 sz9 hle2 rfl ?_
                  refine At.ops0 ?_
                  exact fun a ha => ⟨ha, rfl⟩
                refine At.wpcE [9] (by kernel_rfl) (by kernel_rfl) (.cons [11, 12, 13] rfl (by kernel_rfl) ?_ .nil)
                refine At.buildSlice (xs := [.tmp 55]) rfl rfl el27 sz9 ze9 (by intro v hv; simp only [List.mem_cons, List.not_mem_nil, or_false] at hv; rcases hv with rfl <;> first | rfl | simp [Value.cells, Value.cells]) rfl (by decide) rfl (fun b4 w11 F4 => ?_)
                have q_hO6_b4 : some b4 ≠ Value.ownBlock va4 := Own.neFresh hO6 F4
                have gb4 := F4.ge hB
                replace hso := hso.fresh F4
                replace hO6 := hO6.fresh F4
                have hb4 : w11.heap[b4]? = some (.cells #[.string uB] 9) := F4.new
                replace hB := F4.below' hB
                refine At.ops0 ?_
                refine At.wpcN (.cons rfl rfl rfl rfl (fun Lx => ?_) (.cons rfl rfl rfl rfl (fun Lx => ?_) (.cons rfl rfl rfl rfl (fun Lx => ?_) .nil))) ?_
                · skip
                  refine At.move rfl rfl ?_
                  refine At.ops0 ?_
                  exact fun a ha => ⟨ha, rfl⟩
                · skip
                  refine At.move rfl rfl ?_
                  refine At.ops0 ?_
                  exact fun a ha => ⟨ha, rfl⟩
                · skip
                  refine At.sliceFrom (h := k) rfl rfl (hso).ok el27 sz9 hle2 rfl ?_
                  refine At.ops0 ?_
                  exact fun a ha => ⟨ha, rfl⟩
                refine At.wpcE [10] (by kernel_rfl) (by kernel_rfl) (.cons [11, 12, 13] rfl (by kernel_rfl) ?_ .nil)
                refine At.appendS (ss := ([] ++ (lo.take k))) rfl rfl el27 el27 sz9 by9 ze9 rfl hO6 ((StrsAt.own (ss := [uB]) hb4 rfl (by decide) : StrsAt _ (.slice (some ⟨b4, 0, none⟩) 1 1) [uB])) (by first | omega | (simp only [List.length_append, List.length_take, List.length_drop, List.length_cons, List.length_nil]; omega)) rfl (fun va5 w12 hO7 hA5 => ?_)
                clear hb4
                have has7 := ApartS.app has6 hA5 hso
                replace hso := AppR.strs hA5 hso has6
                have ghO7 := hA5.ge hB.size ghO6
                replace hB := hA5.below hB hB.size ghO6
                refine At.ops0 ?_
                refine At.wpcN (.cons rfl rfl rfl rfl (fun Lx => ?_) (.cons rfl rfl rfl rfl (fun Lx => ?_) (.cons rfl rfl rfl rfl (fun Lx => ?_) .nil))) ?_
                · skip
                  refine At.move rfl rfl ?_
                  refine At.ops0 ?_
                  exact fun a ha => ⟨ha, rfl⟩
                · skip
                  refine At.move rfl rfl ?_
                  refine At.ops0 ?_
                  exact fun a ha => ⟨ha, rfl⟩
                · skip
                  refine At.sliceFrom (h := k) rfl rfl (hso).ok el27 sz9 hle2 rfl ?_
                  refine At.ops0 ?_
                  exact fun a ha => ⟨ha, rfl⟩
                refine At.wpcE [14] (by kernel_rfl) (by kernel_rfl) (.cons [] rfl (by kernel_rfl) ?_ .nil)
                refine At.appendS (ss := (([] ++ (lo.take k)) ++ [uB])) rfl rfl el27 el27 sz9 by9 ze9 rfl hO7 (((StrsAt.drop hso hle2)).keep (Below.refl _ _)) (by first | omega | (simp only [List.length_append, List.length_take, List.length_drop, List.length_cons, List.length_nil]; omega)) rfl (fun va6 w13 hO8 hA6 => ?_)
                have has8 := ApartS.app has7 hA6 hso
                replace hso := AppR.strs hA6 hso has7
                have ghO8 := hA6.ge hB.size ghO7
                replace hB := hA6.below hB hB.size ghO7
                refine At.ops0 ?_
                refine At.wpcN .nil ?_
                refine At.wpcE [15] (by kernel_rfl) (by kernel_rfl) (.cons [] rfl (by kernel_rfl) ?_ .nil)
                refine At.assign rfl rfl ?_
                refine At.ops0 ?_
                refine At.wpcN .nil ?_
                refine At.wpcZ ?_
                exact At.joinedG va6 (Sub.cons rfl (Sub.cons rfl (Sub.cons rfl Sub.nil))) ⟨hB, hO8, ghO8⟩
              · skip
                refine At.buildSlice (xs := [.tmp 55]) rfl rfl el27 sz9 ze9 (by intro v hv; simp only [List.mem_cons, List.not_mem_nil, or_false] at hv; rcases hv with rfl <;> first | rfl | simp [Value.cells, Value.cells]) rfl (by decide) rfl (fun b5 w14 F5 => ?_)
                have q_hO5_b5 : some b5 ≠ Value.ownBlock (.slice (some ⟨b3, 0, none⟩) 0 0) := Own.neFresh hO5 F5
                have gb5 := F5.ge hB
                replace hso := hso.fresh F5
                replace hO5 := hO5.fresh F5
                have hb5 : w14.heap[b5]? = some (.cells #[.string uB] 9) := F5.new
                replace hB := F5.below' hB
                refine At.ops0 ?_
                refine At.wpcN (.cons rfl rfl rfl rfl (fun Lx => ?_) (.cons rfl rfl rfl rfl (fun Lx => ?_) (.cons rfl rfl rfl rfl (fun Lx => ?_) (.cons rfl rfl rfl rfl (fun Lx => ?_) (.cons rfl rfl rfl rfl (fun Lx => ?_) (.cons rfl rfl rfl rfl (fun Lx => ?_) .nil)))))) ?_
                · skip
                  refine At.move rfl rfl ?_
                  refine At.ops0 ?_
                  exact fun a ha => ⟨ha, rfl⟩
                · skip
                  refine At.move rfl rfl ?_
                  refine At.ops0 ?_
                  exact fun a ha => ⟨ha, rfl⟩
                · skip
                  refine At.sliceTo (h := k) rfl rfl (hso).ok el27 sz9 hle2 rfl ?_
                  refine At.ops0 ?_
                  exact fun a ha => ⟨ha, rfl⟩
                · skip
                  refine At.move rfl rfl ?_
                  refine At.ops0 ?_
                  exact fun a ha => ⟨ha, rfl⟩
                · skip
                  refine At.move rfl rfl ?_
                  refine At.ops0 ?_
                  exact fun a ha => ⟨ha, rfl⟩
                · skip
                  refine At.sliceFrom (h := k) rfl rfl (hso).ok el27 sz9 hle2 rfl ?_
                  refine At.ops0 ?_
                  exact fun a ha => ⟨ha, rfl⟩
                refine At.wpcE [4] (by kernel_rfl) (by kernel_rfl) (.cons [11, 12, 13] rfl (by kernel_rfl) ?_ .nil)
                refine At.appendS (ss := []) rfl rfl el27 el27 sz9 by9 ze9 rfl hO5 (((StrsAt.take hso hle2)).keep (Below.refl _ _)) (by first | omega | (simp only [List.length_append, List.length_take, List.length_drop, List.length_cons, List.length_nil]; omega)) rfl (fun va7 w15 hO9 hA7 => ?_)
                have q_hO9_b5 : some b5 ≠ Value.ownBlock va7 := Moved.ne hA7.blk (Array.getElem?_eq_some_iff.1 hb5).1 q_hO5_b5
                replace hb5 := hA7.old hb5 q_hO5_b5
                have has9 := ApartS.app has5 hA7 hso
                replace hso := AppR.strs hA7 hso has5
                have ghO9 := hA7.ge hB.size ghO5
                replace hB := hA7.below hB hB.size ghO5
                refine At.ops0 ?_
                refine At.wpcN (.cons rfl rfl rfl rfl (fun Lx => ?_) (.cons rfl rfl rfl rfl (fun Lx => ?_) (.cons rfl rfl rfl rfl (fun Lx => ?_) .nil))) ?_
                · skip
                  refine At.move rfl rfl ?_
                  refine At.ops0 ?_
                  exact fun a ha => ⟨ha, rfl⟩
                · skip
                  refine At.move rfl rfl ?_
                  refine At.ops0 ?_
                  exact fun a ha => ⟨ha, rfl⟩
                · skip
                  refine At.sliceFrom (h := k) rfl rfl (hso).ok el27 sz9 hle2 rfl ?_
                  refine At.ops0 ?_
                  exact fun a ha => ⟨ha, rfl⟩
                refine At.wpcE [10] (by kernel_rfl) (by kernel_rfl) (.cons [11, 12, 13] rfl (by kernel_rfl) ?_ .nil)
                refine At.appendS (ss := ([] ++ (lo.take k))) rfl rfl el27 el27 sz9 by9 ze9 rfl hO9 ((StrsAt.own (ss := [uB]) hb5 rfl (by decide) : StrsAt _ (.slice (some ⟨b5, 0, none⟩) 1 1) [uB])) (by first | omega | (simp only [List.length_append, List.length_take, List.length_drop, List.length_cons, List.length_nil]; omega)) rfl (fun va8 w16 hO10 hA8 => ?_)
                clear hb5
                have has10 := ApartS.app has9 hA8 hso
                replace hso := AppR.strs hA8 hso has9
                have ghO10 := hA8.ge hB.size ghO9
                replace hB := hA8.below hB hB.size ghO9
                refine At.ops0 ?_
                refine At.wpcN (.cons rfl rfl rfl rfl (fun Lx => ?_) (.cons rfl rfl rfl rfl (fun Lx => ?_) (.cons rfl rfl rfl rfl (fun Lx => ?_) .nil))) ?_
                · skip
                  refine At.move rfl rfl ?_
                  refine At.ops0 ?_
                  exact fun a ha => ⟨ha, rfl⟩
                · skip
                  refine At.move rfl rfl ?_
                  refine At.ops0 ?_
                  exact fun a ha => ⟨ha, rfl⟩
                · skip
                  refine At.sliceFrom (h := k) rfl rfl (hso).ok el27 sz9 hle2 rfl ?_
                  refine At.ops0 ?_
                  exact fun a ha => ⟨ha, rfl⟩
                refine At.wpcE [14] (by kernel_rfl) (by kernel_rfl) (.cons [] rfl (by kernel_rfl) ?_ .nil)
                refine At.appendS (ss := (([] ++ (lo.take k)) ++ [uB])) rfl rfl el27 el27 sz9 by9 ze9 rfl hO10 (((StrsAt.drop hso hle2)).keep (Below.refl _ _)) (by first | omega | (simp only [List.length_append, List.length_take, List.length_drop, List.length_cons, List.length_nil]; omega)) rfl (fun va9 w17 hO11 hA9 => ?_)
                have has11 := ApartS.app has10 hA9 hso
                replace hso := AppR.strs hA9 hso has10
                have ghO11 := hA9.ge hB.size ghO10
                replace hB := hA9.below hB hB.size ghO10
                refine At.ops0 ?_
                refine At.wpcN .nil ?_
                refine At.wpcE [15] (by kernel_rfl) (by kernel_rfl) (.cons [] rfl (by kernel_rfl) ?_ .nil)
                refine At.assign rfl rfl ?_
                refine At.ops0 ?_
                refine At.wpcN .nil ?_
                refine At.wpcZ ?_
                exact At.joinedG va9 (Sub.cons rfl (Sub.cons rfl (Sub.cons rfl Sub.nil))) ⟨hB, hO11, ghO11⟩
            · skip
              refine At.buildSlice (xs := [.tmp 55]) rfl rfl el27 sz9 ze9 (by intro v hv; simp only [List.mem_cons, List.not_mem_nil, or_false] at hv; rcases hv with rfl <;> first | rfl | simp [Value.cells, Value.cells]) rfl (by decide) rfl (fun b6 w18 F6 => ?_)
              have gb6 := F6.ge hB
              replace hso := hso.fresh F6
              have hb6 : w18.heap[b6]? = some (.cells #[.string uB] 9) := F6.new
              replace hB := F6.below' hB
              refine At.ops0 ?_
              refine At.wpcN (.cons rfl rfl rfl rfl (fun Lx => ?_) (.cons rfl rfl rfl rfl (fun Lx => ?_) (.cons rfl rfl rfl rfl (fun Lx => ?_) (.cons rfl rfl rfl rfl (fun Lx => ?_) (.cons rfl rfl rfl rfl (fun Lx => ?_) (.cons rfl rfl rfl rfl (fun Lx => ?_) .nil)))))) ?_
              · skip
                refine At.move rfl rfl ?_
                refine At.ops0 ?_
                exact fun a ha => ⟨ha, rfl⟩
              · skip
                refine At.move rfl rfl ?_
                refine At.ops0 ?_
                exact fun a ha => ⟨ha, rfl⟩
              · skip
                refine At.sliceTo (h := k) rfl rfl (hso).ok el27 sz9 hle2 rfl ?_
                refine At.ops0 ?_
                exact fun a ha => ⟨ha, rfl⟩
              · skip
                refine At.move rfl rfl ?_
                refine At.ops0 ?_
                exact fun a ha => ⟨ha, rfl⟩
              · skip
                refine At.move rfl rfl ?_
                refine At.ops0 ?_
                exact fun a ha => ⟨ha, rfl⟩
              · skip
                refine At.sliceFrom (h := k) rfl rfl (hso).ok el27 sz9 hle2 rfl ?_
                refine At.ops0 ?_
                exact fun a ha => ⟨ha, rfl⟩
              refine At.wpcE [0] (by kernel_rfl) (by kernel_rfl) (.cons [1, 2, 3, 11, 12, 13] rfl (by kernel_rfl) ?_ .nil)
              refine At.buildSlice (xs := []) rfl rfl el27 sz9 ze9 (by simp) rfl (by decide) rfl (fun b7 w19 F7 => ?_)
              have n_b6_b7 : b6 ≠ b7 := Nat.ne_of_lt (F7.lt hb6)
              have gb7 := F7.ge hB
              replace hb6 := F7.old hb6
              have has12 := ApartS.fresh (n := 0) (c := 0) hso F7
              replace hso := hso.fresh F7
              have hb7 : w19.heap[b7]? = some (.cells #[] 9) := F7.new
              replace hB := F7.below' hB
              have hO12 : OwnS 9 w19 (.slice (some ⟨b7, 0, none⟩) 0 0) [] := OwnS.made (ss := []) hb7 rfl (by decide)
              have ghO12 : ∀ g, Value.ownBlock (.slice (some ⟨b7, 0, none⟩) 0 0) = some g → w.heap.size ≤ g := fun g h => by cases h; exact gb7
              have qhO12_b6 : some b6 ≠ Value.ownBlock (.slice (some ⟨b7, 0, none⟩) 0 0) := fun e => n_b6_b7 (Option.some.inj e)
              clear hb7
              refine At.ops0 ?_
              refine At.wpcN (.cons rfl rfl rfl rfl (fun Lx => ?_) (.cons rfl rfl rfl rfl (fun Lx => ?_) (.cons rfl rfl rfl rfl (fun Lx => ?_) (.cons rfl rfl rfl rfl (fun Lx => ?_) (.cons rfl rfl rfl rfl (fun Lx => ?_) (.cons rfl rfl rfl rfl (fun Lx => ?_) .nil)))))) ?_
              · skip
                refine At.move rfl rfl ?_
                refine At.ops0 ?_
                exact fun a ha => ⟨ha, rfl⟩
              · skip
                refine At.move rfl rfl ?_
                refine At.ops0 ?_
                exact fun a ha => ⟨ha, rfl⟩
              · skip
                refine At.sliceTo (h := k) rfl rfl (hso).ok el27 sz9 hle2 rfl ?_
                refine At.ops0 ?_
                exact fun a ha => ⟨ha, rfl⟩
              · skip
                refine At.move rfl rfl ?_
                refine At.ops0 ?_
                exact fun a ha => ⟨ha, rfl⟩
              · skip
                refine At.move rfl rfl ?_
                refine At.ops0 ?_
                exact fun a ha => ⟨ha, rfl⟩
              · skip
                refine At.sliceFrom (h := k) rfl rfl (hso).ok el27 sz9 hle2 rfl ?_
                refine At.ops0 ?_
                exact fun a ha => ⟨ha, rfl⟩
              refine At.wpcE [4] (by kernel_rfl) (by kernel_rfl) (.cons [11, 12, 13] rfl (by kernel_rfl) ?_ .nil)
              refine At.appendS (ss := []) rfl rfl el27 el27 sz9 by9 ze9 rfl hO12 (((StrsAt.take hso hle2)).keep (Below.refl _ _)) (by first | omega | (simp only [List.length_append, List.length_take, List.length_drop, List.length_cons, List.length_nil]; omega)) rfl (fun va10 w20 hO13 hA10 => ?_)
              have q_hO13_b6 : some b6 ≠ Value.ownBlock va10 := Moved.ne hA10.blk (Array.getElem?_eq_some_iff.1 hb6).1 qhO12_b6
              replace hb6 := hA10.old hb6 qhO12_b6
              have has13 := ApartS.app has12 hA10 hso
              replace hso := AppR.strs hA10 hso has12
              have ghO13 := hA10.ge hB.size ghO12
              replace hB := hA10.below hB hB.size ghO12
              refine At.ops0 ?_
              refine At.wpcN (.cons rfl rfl rfl rfl (fun Lx => ?_) (.cons rfl rfl rfl rfl (fun Lx => ?_) (.cons rfl rfl rfl rfl (fun Lx => ?_) .nil))) ?_
              · skip
                refine At.move rfl rfl ?_
                refine At.ops0 ?_
                exact fun a ha => ⟨ha, rfl⟩
              · skip
                refine At.move rfl rfl ?_
                refine At.ops0 ?_
                exact fun a ha => ⟨ha, rfl⟩
              · skip
                refine At.sliceFrom (h := k) rfl rfl (hso).ok el27 sz9 hle2 rfl ?_
                refine At.ops0 ?_
                exact fun a ha => ⟨ha, rfl⟩
              refine At.wpcE [10] (by kernel_rfl) (by kernel_rfl) (.cons [11, 12, 13] rfl (by kernel_rfl) ?_ .nil)
              refine At.appendS (ss := ([] ++ (lo.take k))) rfl rfl el27 el27 sz9 by9 ze9 rfl hO13 ((StrsAt.own (ss := [uB]) hb6 rfl (by decide) : StrsAt _ (.slice (some ⟨b6, 0, none⟩) 1 1) [uB])) (by first | omega | (simp only [List.length_append, List.length_take, List.length_drop, List.length_cons, List.length_nil]; omega)) rfl (fun va11 w21 hO14 hA11 => ?_)
              clear hb6
              have has14 := ApartS.app has13 hA11 hso
              replace hso := AppR.strs hA11 hso has13
              have ghO14 := hA11.ge hB.size ghO13
              replace hB := hA11.below hB hB.size ghO13
              refine At.ops0 ?_
              refine At.wpcN (.cons rfl rfl rfl rfl (fun Lx => ?_) (.cons rfl rfl rfl rfl (fun Lx => ?_) (.cons rfl rfl rfl rfl (fun Lx => ?_) .nil))) ?_
              · skip
                refine At.move rfl rfl ?_
                refine At.ops0 ?_
                exact fun a ha => ⟨ha, rfl⟩
              · skip
                refine At.move rfl rfl ?_
                refine At.ops0 ?_
                exact fun a ha => ⟨ha, rfl⟩
              · skip
                refine At.sliceFrom (h := k) rfl rfl (hso).ok el27 sz9 hle2 rfl ?_
                refine At.ops0 ?_
                exact fun a ha => ⟨ha, rfl⟩
              refine At.wpcE [14] (by kernel_rfl) (by kernel_rfl) (.cons [] rfl (by kernel_rfl) ?_ .nil)
              refine At.appendS (ss := (([] ++ (lo.take k)) ++ [uB])) rfl rfl el27 el27 sz9 by9 ze9 rfl hO14 (((StrsAt.drop hso hle2)).keep (Below.refl _ _)) (by first | omega | (simp only [List.length_append, List.length_take, List.length_drop, List.length_cons, List.length_nil]; omega)) rfl (fun va12 w22 hO15 hA12 => ?_)
              have has15 := ApartS.app has14 hA12 hso
              replace hso := AppR.strs hA12 hso has14
              have ghO15 := hA12.ge hB.size ghO14
              replace hB := hA12.below hB hB.size ghO14
              refine At.ops0 ?_
              refine At.wpcN .nil ?_
              refine At.wpcE [15] (by kernel_rfl) (by kernel_rfl) (.cons [] rfl (by kernel_rfl) ?_ .nil)
              refine At.assign rfl rfl ?_
              refine At.ops0 ?_
              refine At.wpcN .nil ?_
              refine At.wpcZ ?_
              exact At.joinedG va12 (Sub.cons rfl (Sub.cons rfl (Sub.cons rfl Sub.nil))) ⟨hB, hO15, ghO15⟩
          · skip
            clear hB hso
            obtain ⟨hB, hO4, ghO4⟩ := hS
            show At _ _ [(1, u), (5, va3), (6, .int .i64 (i : Int))] _ _
            refine At.inN ?_
            refine At.thenN ?_
            refine At.region ?_
            refine At.move rfl rfl ?_
            refine At.addI rfl rfl rfl (by first | omega | (simp only [List.length_append, List.length_take, List.length_drop, List.length_cons, List.length_nil]; omega)) ?_
            refine At.assign rfl rfl ?_
            refine At.ops0 ?_
            refine At.thenN ?_
            exact fun a ha => ⟨((i + 1), va3, ((([] ++ (lo.take k)) ++ [uB]) ++ (lo.drop k))), ha.sub (Sub.cons rfl (Sub.cons rfl (Sub.cons rfl Sub.nil))), ⟨hB, (hO4).strs, (by omega), (by simp only [List.length_append, List.length_take, List.length_drop, List.length_cons, List.length_nil]; omega), (fun x => by rw [memB_ins, hmem, memB_take huB, Bool.or_assoc])⟩, by first | omega | (dsimp only; omega)⟩
        · skip
          have hg2' := of_decide_eq_false hg2
          refine At.drawG (n := 15) mixed (by kernel_rfl) rfl (PanicOk.then (PanicOk.block (PanicOk.then (PanicOk.then (PanicOk.block (PanicOk.then PanicOk.body)))))) ?_
          have hB := Below.drewB hB
          have hso := hso.drew
          refine At.wpcS (i := 0) (d := 32) (.int .i64 (k : Int)) (by kernel_rfl) rfl rfl rfl (fun Lx => ?_) ?_
          · skip
            refine At.move rfl rfl ?_
            refine At.ops0 ?_
            exact fun a ha => ⟨ha, rfl⟩
          refine At.wpcS (i := 1) (d := 33) (vo) (by kernel_rfl) rfl rfl rfl (fun Lx => ?_) ?_
          · skip
            refine At.move rfl rfl ?_
            refine At.ops0 ?_
            exact fun a ha => ⟨ha, rfl⟩
          refine At.wpcS (i := 2) (d := 34) (.int .i64 (lo.length : Int)) (by kernel_rfl) rfl rfl rfl (fun Lx => ?_) ?_
          · skip
            refine At.lenSl rfl (hso).ok el27 rfl ?_
            refine At.ops0 ?_
            exact fun a ha => ⟨ha, rfl⟩
          refine At.wpcS (i := 3) (d := 35) (.bool (decide ((k : Int) = (lo.length : Int)))) (by kernel_rfl) rfl rfl rfl (fun Lx => ?_) ?_
          · skip
            refine At.eqI rfl rfl rfl ?_
            refine At.ops0 ?_
            exact fun a ha => ⟨ha, rfl⟩
          refine At.set (d := 35) (u := .bool false) rfl (congrArg Value.bool hg2) ?_
          refine At.wpcS (i := 4) (d := 36) (.bool false) (by kernel_rfl) rfl rfl rfl (fun Lx => ?_) ?_
          · skip
            refine At.move rfl rfl ?_
            refine At.ops0 ?_
            exact fun a ha => ⟨ha, rfl⟩
          refine At.wpcS (i := 5) (d := 37) (vo) (by kernel_rfl) rfl rfl rfl (fun Lx => ?_) ?_
          · skip
            refine At.yes rfl rfl rfl rfl ?_
            refine At.move rfl rfl ?_
            refine At.ops0 ?_
            exact fun a ha => ⟨ha, rfl⟩
          refine At.wpcS (i := 6) (d := 38) (.int .i64 (k : Int)) (by kernel_rfl) rfl rfl rfl (fun Lx => ?_) ?_
          · skip
            refine At.yes rfl rfl rfl rfl ?_
            refine At.move rfl rfl ?_
            refine At.ops0 ?_
            exact fun a ha => ⟨ha, rfl⟩
          refine At.wpcS (i := 7) (d := 39) (.pointer (some ⟨vBlock vo, vOff vo + k * 1, none⟩)) (by kernel_rfl) rfl rfl rfl (fun Lx => ?_) ?_
          · skip
            refine At.yes rfl rfl rfl rfl ?_
            refine At.indexAddr (i := k) rfl rfl (hso).ok (lt_of_some hu1) el27 sz9 rfl ?_
            refine At.ops0 ?_
            exact fun a ha => ⟨ha, rfl⟩
          refine At.wpcS (i := 8) (d := 40) (.string u1) (by kernel_rfl) rfl rfl rfl (fun Lx => ?_) ?_
          · skip
            refine At.yes rfl rfl rfl rfl ?_
            refine At.load rfl (Ld.cell ag9 (cell_keep ((hso).get hu1) (Below.refl _ _))) rfl ?_
            refine At.ops0 ?_
            exact fun a ha => ⟨ha, rfl⟩
          refine At.wpcS (i := 9) (d := 41) (u) (by kernel_rfl) rfl rfl rfl (fun Lx => ?_) ?_
          · skip
            refine At.yes rfl rfl rfl rfl ?_
            refine At.move rfl rfl ?_
            refine At.ops0 ?_
            exact fun a ha => ⟨ha, rfl⟩
          refine At.wpcS (i := 10) (d := 42) (.int .i64 (i : Int)) (by kernel_rfl) rfl rfl rfl (fun Lx => ?_) ?_
          · skip
            refine At.yes rfl rfl rfl rfl ?_
            refine At.move rfl rfl ?_
            refine At.ops0 ?_
            exact fun a ha => ⟨ha, rfl⟩
          refine At.wpcS (i := 11) (d := 43) (.pointer (some ⟨vBlock u, vOff u + i * 1, none⟩)) (by kernel_rfl) rfl rfl rfl (fun Lx => ?_) ?_
          · skip
            refine At.yes rfl rfl rfl rfl ?_
            refine At.indexAddr (i := i) rfl rfl (hu).ok (lt_of_some huB) el27 sz9 rfl ?_
            refine At.ops0 ?_
            exact fun a ha => ⟨ha, rfl⟩
          refine At.wpcS (i := 12) (d := 44) (.string uB) (by kernel_rfl) rfl rfl rfl (fun Lx => ?_) ?_
          · skip
            refine At.yes rfl rfl rfl rfl ?_
            refine At.load rfl (Ld.cell ag9 (cell_keep ((hu).get huB) hB)) rfl ?_
            refine At.ops0 ?_
            exact fun a ha => ⟨ha, rfl⟩
          refine At.wpcS (i := 13) (d := 45) (.bool (!decide (u1 = uB))) (by kernel_rfl) rfl rfl rfl (fun Lx => ?_) ?_
          · skip
            refine At.yes rfl rfl rfl rfl ?_
            refine At.neS rfl rfl rfl ?_
            refine At.ops0 ?_
            exact fun a ha => ⟨ha, rfl⟩
          refine At.wpcS (i := 14) (d := 46) (.bool (!decide (u1 = uB))) (by kernel_rfl) rfl rfl rfl (fun Lx => ?_) ?_
          · skip
            refine At.pickF rfl rfl rfl ?_
            refine At.ops0 ?_
            exact fun a ha => ⟨ha, rfl⟩
          refine At.wpcZ ?_
          refine At.thenN ?_
          refine At.cond (b := (!decide (u1 = uB))) rfl (fun hc3 => ?_) (fun hc3 => ?_)
          · skip
            have hc3' := hc3; simp only [Bool.not_eq_true', Bool.not_eq_false', decide_eq_true_eq, decide_eq_false_iff_not] at hc3'
            refine At.joinG (ι := Value) (fun va15 => [(1, u), (5, va15), (6, .int .i64 (i : Int))]) (fun va15 w28 => (Below w.heap.size w w28) ∧ (OwnS 9 w28 va15 ((([] ++ (lo.take k)) ++ [uB]) ++ (lo.drop k))) ∧ (∀ g, va15.ownBlock = some g → w.heap.size ≤ g)) ?_ (fun va15 w28 hS => ?_)
            · skip
              have hle4 : k ≤ lo.length := by first | omega | (simp only [List.length_append, List.length_take, List.length_drop, List.length_cons, List.length_nil]; omega)
              refine At.drawG (n := 16) mixed (by kernel_rfl) rfl (PanicOk.norm (PanicOk.block (PanicOk.then (PanicOk.then (PanicOk.block (PanicOk.then PanicOk.body)))))) ?_
              have hB := Below.drewB hB
              have hso := hso.drew
              refine At.wpcS (i := 1) (d := 48) (vo) (by kernel_rfl) rfl rfl rfl (fun Lx => ?_) ?_
              · skip
                refine At.move rfl rfl ?_
                refine At.ops0 ?_
                exact fun a ha => ⟨ha, rfl⟩
              refine At.wpcS (i := 2) (d := 49) (.int .i64 (k : Int)) (by kernel_rfl) rfl rfl rfl (fun Lx => ?_) ?_
              · skip
                refine At.move rfl rfl ?_
                refine At.ops0 ?_
                exact fun a ha => ⟨ha, rfl⟩
              refine At.wpcS (i := 3) (d := 50) ((takeV vo k)) (by kernel_rfl) rfl rfl rfl (fun Lx => ?_) ?_
              · skip
                refine At.sliceTo (h := k) rfl rfl (hso).ok el27 sz9 hle4 rfl ?_
                refine At.ops0 ?_
                exact fun a ha => ⟨ha, rfl⟩
              refine At.wpcS (i := 5) (d := 52) (u) (by kernel_rfl) rfl rfl rfl (fun Lx => ?_) ?_
              · skip
                refine At.move rfl rfl ?_
                refine At.ops0 ?_
                exact fun a ha => ⟨ha, rfl⟩
              refine At.wpcS (i := 6) (d := 53) (.int .i64 (i : Int)) (by kernel_rfl) rfl rfl rfl (fun Lx => ?_) ?_
              · skip
                refine At.move rfl rfl ?_
                refine At.ops0 ?_
                exact fun a ha => ⟨ha, rfl⟩
              refine At.wpcS (i := 7) (d := 54) (.pointer (some ⟨vBlock u, vOff u + i * 1, none⟩)) (by kernel_rfl) rfl rfl rfl (fun Lx => ?_) ?_
              · skip
                refine At.indexAddr (i := i) rfl rfl (hu).ok (lt_of_some huB) el27 sz9 rfl ?_
                refine At.ops0 ?_
                exact fun a ha => ⟨ha, rfl⟩
              refine At.wpcS (i := 8) (d := 55) (.string uB) (by kernel_rfl) rfl rfl rfl (fun Lx => ?_) ?_
              · skip
                refine At.load rfl (Ld.cell ag9 (cell_keep ((hu).get huB) hB)) rfl ?_
                refine At.ops0 ?_
                exact fun a ha => ⟨ha, rfl⟩
              refine At.wpcS (i := 11) (d := 58) (vo) (by kernel_rfl) rfl rfl rfl (fun Lx => ?_) ?_
              · skip
                refine At.move rfl rfl ?_
                refine At.ops0 ?_
                exact fun a ha => ⟨ha, rfl⟩
              refine At.wpcS (i := 12) (d := 59) (.int .i64 (k : Int)) (by kernel_rfl) rfl rfl rfl (fun Lx => ?_) ?_
              · skip
                refine At.move rfl rfl ?_
                refine At.ops0 ?_
                exact fun a ha => ⟨ha, rfl⟩
              refine At.wpcS (i := 13) (d := 60) ((dropV 1 vo k)) (by kernel_rfl) rfl rfl rfl (fun Lx => ?_) ?_
              · skip
                refine At.sliceFrom (h := k) rfl rfl (hso).ok el27 sz9 hle4 rfl ?_
                refine At.ops0 ?_
                exact fun a ha => ⟨ha, rfl⟩
              refine At.wpcE [0, 9] (by kernel_rfl) (by kernel_rfl) (.cons [1, 2, 3, 5, 6, 7, 8, 11, 12, 13] rfl (by kernel_rfl) ?_ (.cons [1, 2, 3, 11, 12, 13] rfl (by kernel_rfl) ?_ .nil))
              · skip
                refine At.buildSlice (xs := []) rfl rfl el27 sz9 ze9 (by simp) rfl (by decide) rfl (fun b10 w29 F10 => ?_)
                have gb10 := F10.ge hB
                have has20 := ApartS.fresh (n := 0) (c := 0) hso F10
                replace hso := hso.fresh F10
                have hb10 : w29.heap[b10]? = some (.cells #[] 9) := F10.new
                replace hB := F10.below' hB
                have hO20 : OwnS 9 w29 (.slice (some ⟨b10, 0, none⟩) 0 0) [] := OwnS.made (ss := []) hb10 rfl (by decide)
                have ghO20 : ∀ g, Value.ownBlock (.slice (some ⟨b10, 0, none⟩) 0 0) = some g → w.heap.size ≤ g := fun g h => by cases h; exact gb10
                clear hb10
                refine At.ops0 ?_
                refine At.wpcN (.cons rfl rfl rfl rfl (fun Lx => ?_) (.cons rfl rfl rfl rfl (fun Lx => ?_) (.cons rfl rfl rfl rfl (fun Lx => ?_) (.cons rfl rfl rfl rfl (fun Lx => ?_) (.cons rfl rfl rfl rfl (fun Lx => ?_) (.cons rfl rfl rfl rfl (fun Lx => ?_) (.cons rfl rfl rfl rfl (fun Lx => ?_) (.cons rfl rfl rfl rfl (fun Lx => ?_) (.cons rfl rfl rfl rfl (fun Lx => ?_) (.cons rfl rfl rfl rfl (fun Lx => ?_) .nil)))))))))) ?_
                · skip
                  refine At.move rfl rfl ?_
                  refine At.ops0 ?_
                  exact fun a ha => ⟨ha, rfl⟩
                · skip
                  refine At.move rfl rfl ?_
                  refine At.ops0 ?_
                  exact fun a ha => ⟨ha, rfl⟩
                · skip
                  refine At.sliceTo (h := k) rfl rfl (hso).ok el27 sz9 hle4 rfl ?_
                  refine At.ops0 ?_
                  exact fun a ha => ⟨ha, rfl⟩
                · skip
                  refine At.move rfl rfl ?_
                  refine At.ops0 ?_
                  exact fun a ha => ⟨ha, rfl⟩
                · skip
                  refine At.move rfl rfl ?_
                  refine At.ops0 ?_
                  exact fun a ha => ⟨ha, rfl⟩
                · skip
                  refine At.indexAddr (i := i) rfl rfl (hu).ok (lt_of_some huB) el27 sz9 rfl ?_
                  refine At.ops0 ?_
                  exact fun a ha => ⟨ha, rfl⟩
                · skip
                  refine At.load rfl (Ld.cell ag9 (cell_keep ((hu).get huB) hB)) rfl ?_
                  refine At.ops0 ?_
                  exact fun a ha => ⟨ha, rfl⟩
                · skip
                  refine At.move rfl rfl ?_
                  refine At.ops0 ?_
                  exact fun a ha => ⟨ha, rfl⟩
                · skip
                  refine At.move rfl rfl ?_
                  refine At.ops0 ?_
                  exact fun a ha => ⟨ha, rfl⟩
                · skip
                  refine At.sliceFrom (h := k) rfl rfl (hso).ok el27 sz9 hle4 rfl ?_
                  refine At.ops0 ?_
                  exact fun a ha => ⟨ha, rfl⟩
                refine At.wpcE [4, 9] (by kernel_rfl) (by kernel_rfl) (.cons [5, 6, 7, 8, 11, 12, 13] rfl (by kernel_rfl) ?_ (.cons [1, 2, 3, 11, 12, 13] rfl (by kernel_rfl) ?_ .nil))
                · skip
                  refine At.appendS (ss := []) rfl rfl el27 el27 sz9 by9 ze9 rfl hO20 (((StrsAt.take hso hle4)).keep (Below.refl _ _)) (by first | omega | (simp only [List.length_append, List.length_take, List.length_drop, List.length_cons, List.length_nil]; omega)) rfl (fun va16 w30 hO21 hA16 => ?_)
                  have has21 := ApartS.app has20 hA16 hso
                  replace hso := AppR.strs hA16 hso has20
                  have ghO21 := hA16.ge hB.size ghO20
                  replace hB := hA16.below hB hB.size ghO20
                  refine At.ops0 ?_
                  refine At.wpcN (.cons rfl rfl rfl rfl (fun Lx => ?_) (.cons rfl rfl rfl rfl (fun Lx => ?_) (.cons rfl rfl rfl rfl (fun Lx => ?_) (.cons rfl rfl rfl rfl (fun Lx => ?_) (.cons rfl rfl rfl rfl (fun Lx => ?_) (.cons rfl rfl rfl rfl (fun Lx => ?_) (.cons rfl rfl rfl rfl (fun Lx => ?_) .nil))))))) ?_
                  · skip
                    refine At.move rfl rfl ?_
                    refine At.ops0 ?_
                    exact fun a ha => ⟨ha, rfl⟩
                  · skip
                    refine At.move rfl rfl ?_
                    refine At.ops0 ?_
                    exact fun a ha => ⟨ha, rfl⟩
                  · skip
                    refine At.indexAddr (i := i) rfl rfl (hu).ok (lt_of_some huB) el27 sz9 rfl ?_
                    refine At.ops0 ?_
                    exact fun a ha => ⟨ha, rfl⟩
                  · skip
                    refine At.load rfl (Ld.cell ag9 (cell_keep ((hu).get huB) hB)) rfl ?_
                    refine At.ops0 ?_
                    exact fun a ha => ⟨ha, rfl⟩
                  · skip
                    refine At.move rfl rfl ?_
                    refine At.ops0 ?_
                    exact fun a ha => ⟨ha, rfl⟩
                  · skip
                    refine At.move rfl rfl ?_
                    refine At.ops0 ?_
                    exact fun a ha => ⟨ha, rfl⟩
                  · skip
                    refine At.sliceFrom (h := k) rfl rfl (hso).ok el27 sz9 hle4 rfl ?_
                    refine At.ops0 ?_
                    exact fun a ha => ⟨ha, rfl⟩
                  refine At.wpcE [9] (by kernel_rfl) (by kernel_rfl) (.cons [11, 12, 13] rfl (by kernel_rfl) ?_ .nil)
                  refine At.buildSlice (xs := [.tmp 55]) rfl rfl el27 sz9 ze9 (by intro v hv; simp only [List.mem_cons, List.not_mem_nil, or_false] at hv; rcases hv with rfl <;> first | rfl | simp [Value.cells, Value.cells]) rfl (by decide) rfl (fun b11 w31 F11 => ?_)
                  have q_hO21_b11 : some b11 ≠ Value.ownBlock va16 := Own.neFresh hO21 F11
                  have gb11 := F11.ge hB
                  replace hso := hso.fresh F11
                  replace hO21 := hO21.fresh F11
                  have hb11 : w31.heap[b11]? = some (.cells #[.string uB] 9) := F11.new
                  replace hB := F11.below' hB
                  refine At.ops0 ?_
                  refine At.wpcN (.cons rfl rfl rfl rfl (fun Lx => ?_) (.cons rfl rfl rfl rfl (fun Lx => ?_) (.cons rfl rfl rfl rfl (fun Lx => ?_) .nil))) ?_
                  · skip
                    refine At.move rfl rfl ?_
                    refine At.ops0 ?_
                    exact fun a ha => ⟨ha, rfl⟩
                  · skip
                    refine At.move rfl rfl ?_
                    refine At.ops0 ?_
                    exact fun a ha => ⟨ha, rfl⟩
                  · skip
                    refine At.sliceFrom (h := k) rfl rfl (hso).ok el27 sz9 hle4 rfl ?_
                    refine At.ops0 ?_
                    exact fun a ha => ⟨ha, rfl⟩
                  refine At.wpcE [10] (by kernel_rfl) (by kernel_rfl) (.cons [11, 12, 13] rfl (by kernel_rfl) ?_ .nil)
                  refine At.appendS (ss := ([] ++ (lo.take k))) rfl rfl el27 el27 sz9 by9 ze9 rfl hO21 ((StrsAt.own (ss := [uB]) hb11 rfl (by decide) : StrsAt _ (.slice (some ⟨b11, 0, none⟩) 1 1) [uB])) (by first | omega | (simp only [List.length_append, List.length_take, List.length_drop, List.length_cons, List.length_nil]; omega)) rfl (fun va17 w32 hO22 hA17 => ?_)
                  clear hb11
                  have has22 := ApartS.app has21 hA17 hso
                  replace hso := AppR.strs hA17 hso has21
                  have ghO22 := hA17.ge hB.size ghO21
                  replace hB := hA17.below hB hB.size ghO21
                  refine At.ops0 ?_
                  refine At.wpcN (.cons rfl rfl rfl rfl (fun Lx => ?_) (.cons rfl rfl rfl rfl (fun Lx => ?_) (.cons rfl rfl rfl rfl (fun Lx => ?_) .nil))) ?_
                  · skip
                    refine At.move rfl rfl ?_
                    refine At.ops0 ?_
                    exact fun a ha => ⟨ha, rfl⟩
                  · skip
                    refine At.move rfl rfl ?_
                    refine At.ops0 ?_
                    exact fun a ha => ⟨ha, rfl⟩
                  · skip
                    refine At.sliceFrom (h := k) rfl rfl (hso).ok el27 sz9 hle4 rfl ?_
                    refine At.ops0 ?_
                    exact fun a ha => ⟨ha, rfl⟩
                  refine At.wpcE [14] (by kernel_rfl) (by kernel_rfl) (.cons [] rfl (by kernel_rfl) ?_ .nil)
                  refine At.appendS (ss := (([] ++ (lo.take k)) ++ [uB])) rfl rfl el27 el27 sz9 by9 ze9 rfl hO22 (((StrsAt.drop hso hle4)).keep (Below.refl _ _)) (by first | omega | (simp only [List.length_append, List.length_take, List.length_drop, List.length_cons, List.length_nil]; omega)) rfl (fun va18 w33 hO23 hA18 => ?_)
                  have has23 := ApartS.app has22 hA18 hso
                  replace hso := AppR.strs hA18 hso has22
                  have ghO23 := hA18.ge hB.size ghO22
                  replace hB := hA18.below hB hB.size ghO22
                  refine At.ops0 ?_
                  refine At.wpcN .nil ?_
                  refine At.wpcE [15] (by kernel_rfl) (by kernel_rfl) (.cons [] rfl (by kernel_rfl) ?_ .nil)
                  refine At.assign rfl rfl ?_
                  refine At.ops0 ?_
                  refine At.wpcN .nil ?_
                  refine At.wpcZ ?_
                  exact At.joinedG va18 (Sub.cons rfl (Sub.cons rfl (Sub.cons rfl Sub.nil))) ⟨hB, hO23, ghO23⟩
                · skip
                  refine At.buildSlice (xs := [.tmp 55]) rfl rfl el27 sz9 ze9 (by intro v hv; simp only [List.mem_cons, List.not_mem_nil, or_false] at hv; rcases hv with rfl <;> first | rfl | simp [Value.cells, Value.cells]) rfl (by decide) rfl (fun b12 w34 F12 => ?_)
                  have q_hO20_b12 : some b12 ≠ Value.ownBlock (.slice (some ⟨b10, 0, none⟩) 0 0) := Own.neFresh hO20 F12
                  have gb12 := F12.ge hB
                  replace hso := hso.fresh F12
                  replace hO20 := hO20.fresh F12
                  have hb12 : w34.heap[b12]? = some (.cells #[.string uB] 9) := F12.new
                  replace hB := F12.below' hB
                  refine At.ops0 ?_
                  refine At.wpcN (.cons rfl rfl rfl rfl (fun Lx => ?_) (.cons rfl rfl rfl rfl (fun Lx => ?_) (.cons rfl rfl rfl rfl (fun Lx => ?_) (.cons rfl rfl rfl rfl (fun Lx => ?_) (.cons rfl rfl rfl rfl (fun Lx => ?_) (.cons rfl rfl rfl rfl (fun Lx => ?_) .nil)))))) ?_
                  · skip
                    refine At.move rfl rfl ?_
                    refine At.ops0 ?_
                    exact fun a ha => ⟨ha, rfl⟩
                  · skip
                    refine At.move rfl rfl ?_
                    refine At.ops0 ?_
                    exact fun a ha => ⟨ha, rfl⟩
                  · skip
                    refine At.sliceTo (h := k) rfl rfl (hso).ok el27 sz9 hle4 rfl ?_
                    refine At.ops0 ?_
                    exact fun a ha => ⟨ha, rfl⟩
                  · skip
                    refine At.move rfl rfl ?_
                    refine At.ops0 ?_
                    exact fun a ha => ⟨ha, rfl⟩
                  · skip
                    refine At.move rfl rfl ?_
                    refine At.ops0 ?_
                    exact fun a ha => ⟨ha, rfl⟩
                  · skip
                    refine At.sliceFrom (h := k) rfl rfl (hso).ok el27 sz9 hle4 rfl ?_
                    refine At.ops0 ?_
                    exact fun a ha => ⟨ha, rfl⟩
                  refine At.wpcE [4] (by kernel_rfl) (by kernel_rfl) (.cons [11, 12, 13] rfl (by kernel_rfl) ?_ .nil)
                  refine At.appendS (ss := []) rfl rfl el27 el27 sz9 by9 ze9 rfl hO20 (((StrsAt.take hso hle4)).keep (Below.refl _ _)) (by first | omega | (simp only [List.length_append, List.length_take, List.length_drop, List.length_cons, List.length_nil]; omega)) rfl (fun va19 w35 hO24 hA19 => ?_)
                  have q_hO24_b12 : some b12 ≠ Value.ownBlock va19 := Moved.ne hA19.blk (Array.getElem?_eq_some_iff.1 hb12).1 q_hO20_b12
                  replace hb12 := hA19.old hb12 q_hO20_b12
                  have has24 := ApartS.app has20 hA19 hso
                  replace hso := AppR.strs hA19 hso has20
                  have ghO24 := hA19.ge hB.size ghO20
                  replace hB := hA19.below hB hB.size ghO20
                  refine At.ops0 ?_
                  refine At.wpcN (.cons rfl rfl rfl rfl (fun Lx => ?_) (.cons rfl rfl rfl rfl (fun Lx => ?_) (.cons rfl rfl rfl rfl (fun Lx => ?_) .nil))) ?_
                  · skip
                    refine At.move rfl rfl ?_
                    refine At.ops0 ?_
                    exact fun a ha => ⟨ha, rfl⟩
                  · skip
                    refine At.move rfl rfl ?_
                    refine At.ops0 ?_
                    exact fun a ha => ⟨ha, rfl⟩
                  · skip
                    refine At.sliceFrom (h := k) rfl rfl (hso).ok el27 sz9 hle4 rfl ?_
                    refine At.ops0 ?_
                    exact fun a ha => ⟨ha, rfl⟩
                  refine At.wpcE [10] (by kernel_rfl) (by kernel_rfl) (.cons [11, 12, 13] rfl (by kernel_rfl) ?_ .nil)
                  refine At.appendS (ss := ([] ++ (lo.take k))) rfl rfl el27 el27 sz9 by9 ze9 rfl hO24 ((StrsAt.own (ss := [uB]) hb12 rfl (by decide) : StrsAt _ (.slice (some ⟨b12, 0, none⟩) 1 1) [uB])) (by first | omega | (simp only [List.length_append, List.length_take, List.length_drop, List.length_cons, List.length_nil]; omega)) rfl (fun va20 w36 hO25 hA20 => ?_)
                  clear hb12
                  have has25 := ApartS.app has24 hA20 hso
                  replace hso := AppR.strs hA20 hso has24
                  have ghO25 := hA20.ge hB.size ghO24
                  replace hB := hA20.below hB hB.size ghO24
                  refine At.ops0 ?_
                  refine At.wpcN (.cons rfl rfl rfl rfl (fun Lx => ?_) (.cons rfl rfl rfl rfl (fun Lx => ?_) (.cons rfl rfl rfl rfl (fun Lx => ?_) .nil))) ?_
                  · skip
                    refine At.move rfl rfl ?_
                    refine At.ops0 ?_
                    exact fun a ha => ⟨ha, rfl⟩
                  · skip
                    refine At.move rfl rfl ?_
                    refine At.ops0 ?_
                    exact fun a ha => ⟨ha, rfl⟩
                  · skip
                    refine At.sliceFrom (h := k) rfl rfl (hso).ok el27 sz9 hle4 rfl ?_
                    refine At.ops0 ?_
                    exact fun a ha => ⟨ha, rfl⟩
                  refine At.wpcE [14] (by kernel_rfl) (by kernel_rfl) (.cons [] rfl (by kernel_rfl) ?_ .nil)
                  refine At.appendS (ss := (([] ++ (lo.take k)) ++ [uB])) rfl rfl el27 el27 sz9 by9 ze9 rfl hO25 (((StrsAt.drop hso hle4)).keep (Below.refl _ _)) (by first | omega | (simp only [List.length_append, List.length_take, List.length_drop, List.length_cons, List.length_nil]; omega)) rfl (fun va21 w37 hO26 hA21 => ?_)
                  have has26 := ApartS.app has25 hA21 hso
                  replace hso := AppR.strs hA21 hso has25
                  have ghO26 := hA21.ge hB.size ghO25
                  replace hB := hA21.below hB hB.size ghO25
                  refine At.ops0 ?_
                  refine At.wpcN .nil ?_
                  refine At.wpcE [15] (by kernel_rfl) (by kernel_rfl) (.cons [] rfl (by kernel_rfl) ?_ .nil)
                  refine At.assign rfl rfl ?_
                  refine At.ops0 ?_
                  refine At.wpcN .nil ?_
                  refine At.wpcZ ?_
                  exact At.joinedG va21 (Sub.cons rfl (Sub.cons rfl (Sub.cons rfl Sub.nil))) ⟨hB, hO26, ghO26⟩
              · skip
                refine At.buildSlice (xs := [.tmp 55]) rfl rfl el27 sz9 ze9 (by intro v hv; simp only [List.mem_cons, List.not_mem_nil, or_false] at hv; rcases hv with rfl <;> first | rfl | simp [Value.cells, Value.cells]) rfl (by decide) rfl (fun b13 w38 F13 => ?_)
                have gb13 := F13.ge hB
                replace hso := hso.fresh F13
                have hb13 : w38.heap[b13]? = some (.cells #[.string uB] 9) := F13.new
                replace hB := F13.below' hB
                refine At.ops0 ?_
                refine At.wpcN (.cons rfl rfl rfl rfl (fun Lx => ?_) (.cons rfl rfl rfl rfl (fun Lx => ?_) (.cons rfl rfl rfl rfl (fun Lx => ?_) (.cons rfl rfl rfl rfl (fun Lx => ?_) (.cons rfl rfl rfl rfl (fun Lx => ?_) (.cons rfl rfl rfl rfl (fun Lx => ?_) .nil)))))) ?_
                · skip
                  refine At.move rfl rfl ?_
                  refine At.ops0 ?_
                  exact fun a ha => ⟨ha, rfl⟩
                · skip
                  refine At.move rfl rfl ?_
                  refine At.ops0 ?_
                  exact fun a ha => ⟨ha, rfl⟩
                · skip
                  refine At.sliceTo (h := k) rfl rfl (hso).ok el27 sz9 hle4 rfl ?_
                  refine At.ops0 ?_
                  exact fun a ha => ⟨ha, rfl⟩
                · skip
                  refine At.move rfl rfl ?_
                  refine At.ops0 ?_
                  exact fun a ha => ⟨ha, rfl⟩
                · skip
                  refine At.move rfl rfl ?_
                  refine At.ops0 ?_
                  exact fun a ha => ⟨ha, rfl⟩
                · skip
                  refine At.sliceFrom (h := k) rfl rfl (hso).ok el27 sz9 hle4 rfl ?_
                  refine At.ops0 ?_
                  exact fun a ha => ⟨ha, rfl⟩
                refine At.wpcE [0] (by kernel_rfl) (by kernel_rfl) (.cons [1, 2, 3, 11, 12, 13] rfl (by kernel_rfl) ?_ .nil)
                refine At.buildSlice (xs := []) rfl rfl el27 sz9 ze9 (by simp) rfl (by decide) rfl (fun b14 w39 F14 => ?_)
                have n_b13_b14 : b13 ≠ b14 := Nat.ne_of_lt (F14.lt hb13)
                have gb14 := F14.ge hB
                replace hb13 := F14.old hb13
                have has27 := ApartS.fresh (n := 0) (c := 0) hso F14
                replace hso := hso.fresh F14
                have hb14 : w39.heap[b14]? = some (.cells #[] 9) := F14.new
                replace hB := F14.below' hB
                have hO27 : OwnS 9 w39 (.slice (some ⟨b14, 0, none⟩) 0 0) [] := OwnS.made (ss := []) hb14 rfl (by decide)
                have ghO27 : ∀ g, Value.ownBlock (.slice (some ⟨b14, 0, none⟩) 0 0) = some g → w.heap.size ≤ g := fun g h => by cases h; exact gb14
                have qhO27_b13 : some b13 ≠ Value.ownBlock (.slice (some ⟨b14, 0, none⟩) 0 0) := fun e => n_b13_b14 (Option.some.inj e)
                clear hb14
                refine At.ops0 ?_
                refine At.wpcN (.cons rfl rfl rfl rfl (fun Lx => ?_) (.cons rfl rfl rfl rfl (fun Lx => ?_) (.cons rfl rfl rfl rfl (fun Lx => ?_) (.cons rfl rfl rfl rfl (fun Lx => ?_) (.cons rfl rfl rfl rfl (fun Lx => ?_) (.cons rfl rfl rfl rfl (fun Lx => ?_) .nil)))))) ?_
                · skip
                  refine At.move rfl rfl ?_
                  refine At.ops0 ?_
                  exact fun a ha => ⟨ha, rfl⟩
                · skip
                  refine At.move rfl rfl ?_
                  refine At.ops0 ?_
                  exact fun a ha => ⟨ha, rfl⟩
                · skip
                  refine At.sliceTo (h := k) rfl rfl (hso).ok el27 sz9 hle4 rfl ?_
                  refine At.ops0 ?_
                  exact fun a ha => ⟨ha, rfl⟩
                · skip
                  refine At.move rfl rfl ?_
                  refine At.ops0 ?_
                  exact fun a ha => ⟨ha, rfl⟩
                · skip
                  refine At.move rfl rfl ?_
                  refine At.ops0 ?_
                  exact fun a ha => ⟨ha, rfl⟩
                · skip
                  refine At.sliceFrom (h := k) rfl rfl (hso).ok el27 sz9 hle4 rfl ?_
                  refine At.ops0 ?_
                  exact fun a ha => ⟨ha, rfl⟩
                refine At.wpcE [4] (by kernel_rfl) (by kernel_rfl) (.cons [11, 12, 13] rfl (by kernel_rfl) ?_ .nil)
                refine At.appendS (ss := []) rfl rfl el27 el27 sz9 by9 ze9 rfl hO27 (((StrsAt.take hso hle4)).keep (Below.refl _ _)) (by first | omega | (simp only [List.length_append, List.length_take, List.length_drop, List.length_cons, List.length_nil]; omega)) rfl (fun va22 w40 hO28 hA22 => ?_)
                have q_hO28_b13 : some b13 ≠ Value.ownBlock va22 := Moved.ne hA22.blk (Array.getElem?_eq_some_iff.1 hb13).1 qhO27_b13
                replace hb13 := hA22.old hb13 qhO27_b13
                have has28 := ApartS.app has27 hA22 hso
                replace hso := AppR.strs hA22 hso has27
                have ghO28 := hA22.ge hB.size ghO27
                replace hB := hA22.below hB hB.size ghO27
                refine At.ops0 ?_
                refine At.wpcN (.cons rfl rfl rfl rfl (fun Lx => ?_) (.cons rfl rfl rfl rfl (fun Lx => ?_) (.cons rfl rfl rfl rfl (fun Lx => ?_) .nil))) ?_
                · skip
                  refine At.move rfl rfl ?_
                  refine At.ops0 ?_
                  exact fun a ha => ⟨ha, rfl⟩
                · skip
                  refine At.move rfl rfl ?_
                  refine At.ops0 ?_
                  exact fun a ha => ⟨ha, rfl⟩
                · skip
                  refine At.sliceFrom (h := k) rfl rfl (hso).ok el27 sz9 hle4 rfl ?_
                  refine At.ops0 ?_
                  exact fun a ha => ⟨ha, rfl⟩
                refine At.wpcE [10] (by kernel_rfl) (by kernel_rfl) (.cons [11, 12, 13] rfl (by kernel_rfl) ?_ .nil)
                refine At.appendS (ss := ([] ++ (lo.take k))) rfl rfl el27 el27 sz9 by9 ze9 rfl hO28 ((StrsAt.own (ss := [uB]) hb13 rfl (by decide) : StrsAt _ (.slice (some ⟨b13, 0, none⟩) 1 1) [uB])) (by first | omega | (simp only [List.length_append, List.length_take, List.length_drop, List.length_cons, List.length_nil]; omega)) rfl (fun va23 w41 hO29 hA23 => ?_)
                clear hb13
                have has29 := ApartS.app has28 hA23 hso
                replace hso := AppR.strs hA23 hso has28
                have ghO29 := hA23.ge hB.size ghO28
                replace hB := hA23.below hB hB.size ghO28
                refine At.ops0 ?_
                refine At.wpcN (.cons rfl rfl rfl rfl (fun Lx => ?_) (.cons rfl rfl rfl rfl (fun Lx => ?_) (.cons rfl rfl rfl rfl (fun Lx => ?_) .nil))) ?_
                · skip
                  refine At.move rfl rfl ?_
                  refine At.ops0 ?_
                  exact fun a ha => ⟨ha, rfl⟩
                · skip
                  refine At.move rfl rfl ?_
                  refine At.ops0 ?_
                  exact fun a ha => ⟨ha, rfl⟩
                · skip
                  refine At.sliceFrom (h := k) rfl rfl (hso).ok el27 sz9 hle4 rfl ?_
                  refine At.ops0 ?_
                  exact fun a ha => ⟨ha, rfl⟩
                refine At.wpcE [14] (by kernel_rfl) (by kernel_rfl) (.cons [] rfl (by kernel_rfl) ?_ .nil)
                refine At.appendS (ss := (([] ++ (lo.take k)) ++ [uB])) rfl rfl el27 el27 sz9 by9 ze9 rfl hO29 (((StrsAt.drop hso hle4)).keep (Below.refl _ _)) (by first | omega | (simp only [List.length_append, List.length_take, List.length_drop, List.length_cons, List.length_nil]; omega)) rfl (fun va24 w42 hO30 hA24 => ?_)
                have has30 := ApartS.app has29 hA24 hso
                replace hso := AppR.strs hA24 hso has29
                have ghO30 := hA24.ge hB.size ghO29
                replace hB := hA24.below hB hB.size ghO29
                refine At.ops0 ?_
                refine At.wpcN .nil ?_
                refine At.wpcE [15] (by kernel_rfl) (by kernel_rfl) (.cons [] rfl (by kernel_rfl) ?_ .nil)
                refine At.assign rfl rfl ?_
                refine At.ops0 ?_
                refine At.wpcN .nil ?_
                refine At.wpcZ ?_
                exact At.joinedG va24 (Sub.cons rfl (Sub.cons rfl (Sub.cons rfl Sub.nil))) ⟨hB, hO30, ghO30⟩
            · skip
              clear hB hso
              obtain ⟨hB, hO19, ghO19⟩ := hS
              show At _ _ [(1, u), (5, va15), (6, .int .i64 (i : Int))] _ _
              refine At.inN ?_
              refine At.thenN ?_
              refine At.region ?_
              refine At.move rfl rfl ?_
              refine At.addI rfl rfl rfl (by first | omega | (simp only [List.length_append, List.length_take, List.length_drop, List.length_cons, List.length_nil]; omega)) ?_
              refine At.assign rfl rfl ?_
              refine At.ops0 ?_
              refine At.thenN ?_
              exact fun a ha => ⟨((i + 1), va15, ((([] ++ (lo.take k)) ++ [uB]) ++ (lo.drop k))), ha.sub (Sub.cons rfl (Sub.cons rfl (Sub.cons rfl Sub.nil))), ⟨hB, (hO19).strs, (by omega), (by simp only [List.length_append, List.length_take, List.length_drop, List.length_cons, List.length_nil]; omega), (fun x => by rw [memB_ins, hmem, memB_take huB, Bool.or_assoc])⟩, by first | omega | (dsimp only; omega)⟩
          · skip
            have hc3' := hc3; simp only [Bool.not_eq_true', Bool.not_eq_false', decide_eq_true_eq, decide_eq_false_iff_not] at hc3'
            refine At.skip ?_
            refine At.inN ?_
            refine At.thenN ?_
            refine At.region ?_
            refine At.move rfl rfl ?_
            refine At.addI rfl rfl rfl (by first | omega | (simp only [List.length_append, List.length_take, List.length_drop, List.length_cons, List.length_nil]; omega)) ?_
            refine At.assign rfl rfl ?_
            refine At.ops0 ?_
            refine At.thenN ?_
            exact fun a ha => ⟨((i + 1), vo, lo), ha.sub (Sub.cons rfl (Sub.cons rfl (Sub.cons rfl Sub.nil))), ⟨hB, hso, (by omega), (by omega), (fun x => by have hq := memB_get (x := x) hu1; rw [show u1 = uB by simpa using hc3', hmem, Bool.or_assoc, ← memB_take huB] at hq; rw [hmem, hq])⟩, by first | omega | (dsimp only; omega)⟩
    · skip
      have hg1' := of_decide_eq_false hg1
      refine At.drawG (n := 15) mixed (by kernel_rfl) rfl (PanicOk.then (PanicOk.then (PanicOk.then (PanicOk.block (PanicOk.then (PanicOk.block (PanicOk.then (PanicOk.then (PanicOk.block (PanicOk.then PanicOk.body)))))))))) ?_
      have hB := Below.drewB hB
      have hso := hso.drew
      refine At.wpcS (i := 0) (d := 15) (.int .i64 (k : Int)) (by kernel_rfl) rfl rfl rfl (fun Lx => ?_) ?_
      · skip
        refine At.move rfl rfl ?_
        refine At.ops0 ?_
        exact fun a ha => ⟨ha, rfl⟩
      refine At.wpcS (i := 1) (d := 16) (vo) (by kernel_rfl) rfl rfl rfl (fun Lx => ?_) ?_
      · skip
        refine At.move rfl rfl ?_
        refine At.ops0 ?_
        exact fun a ha => ⟨ha, rfl⟩
      refine At.wpcS (i := 2) (d := 17) (.int .i64 (lo.length : Int)) (by kernel_rfl) rfl rfl rfl (fun Lx => ?_) ?_
      · skip
        refine At.lenSl rfl (hso).ok el27 rfl ?_
        refine At.ops0 ?_
        exact fun a ha => ⟨ha, rfl⟩
      refine At.wpcS (i := 3) (d := 18) (.bool (decide ((k : Int) < (lo.length : Int)))) (by kernel_rfl) rfl rfl rfl (fun Lx => ?_) ?_
      · skip
        refine At.lss rfl rfl rfl ?_
        refine At.ops0 ?_
        exact fun a ha => ⟨ha, rfl⟩
      refine At.set (d := 18) (u := .bool false) rfl (congrArg Value.bool hg1) ?_
      refine At.wpcS (i := 4) (d := 19) (.bool false) (by kernel_rfl) rfl rfl rfl (fun Lx => ?_) ?_
      · skip
        refine At.move rfl rfl ?_
        refine At.ops0 ?_
        exact fun a ha => ⟨ha, rfl⟩
      refine At.wpcS (i := 5) (d := 20) (undef) (by kernel_rfl) rfl rfl rfl (fun Lx => ?_) ?_
      · skip
        refine At.no rfl rfl rfl rfl rfl rfl rfl ?_
        refine At.ops0 ?_
        exact fun a ha => ⟨ha, rfl⟩
      refine At.wpcS (i := 6) (d := 21) (undef) (by kernel_rfl) rfl rfl rfl (fun Lx => ?_) ?_
      · skip
        refine At.no rfl rfl rfl rfl rfl rfl rfl ?_
        refine At.ops0 ?_
        exact fun a ha => ⟨ha, rfl⟩
      refine At.wpcS (i := 7) (d := 22) (undef) (by kernel_rfl) rfl rfl rfl (fun Lx => ?_) ?_
      · skip
        refine At.no rfl rfl rfl rfl rfl rfl rfl ?_
        refine At.ops0 ?_
        exact fun a ha => ⟨ha, rfl⟩
      refine At.wpcS (i := 8) (d := 23) (undef) (by kernel_rfl) rfl rfl rfl (fun Lx => ?_) ?_
      · skip
        refine At.no rfl rfl rfl rfl rfl rfl rfl ?_
        refine At.ops0 ?_
        exact fun a ha => ⟨ha, rfl⟩
      refine At.wpcS (i := 9) (d := 24) (undef) (by kernel_rfl) rfl rfl rfl (fun Lx => ?_) ?_
      · skip
        refine At.no rfl rfl rfl rfl rfl rfl rfl ?_
        refine At.ops0 ?_
        exact fun a ha => ⟨ha, rfl⟩
      refine At.wpcS (i := 10) (d := 25) (undef) (by kernel_rfl) rfl rfl rfl (fun Lx => ?_) ?_
      · skip
        refine At.no rfl rfl rfl rfl rfl rfl rfl ?_
        refine At.ops0 ?_
        exact fun a ha => ⟨ha, rfl⟩
      refine At.wpcS (i := 11) (d := 26) (undef) (by kernel_rfl) rfl rfl rfl (fun Lx => ?_) ?_
      · skip
        refine At.no rfl rfl rfl rfl rfl rfl rfl ?_
        refine At.ops0 ?_
        exact fun a ha => ⟨ha, rfl⟩
      refine At.wpcS (i := 12) (d := 27) (undef) (by kernel_rfl) rfl rfl rfl (fun Lx => ?_) ?_
      · skip
        refine At.no rfl rfl rfl rfl rfl rfl rfl ?_
        refine At.ops0 ?_
        exact fun a ha => ⟨ha, rfl⟩
      refine At.wpcS (i := 13) (d := 28) (undef) (by kernel_rfl) rfl rfl rfl (fun Lx => ?_) ?_
      · skip
        refine At.no rfl rfl rfl rfl rfl rfl rfl ?_
        refine At.ops0 ?_
        exact fun a ha => ⟨ha, rfl⟩
      refine At.wpcS (i := 14) (d := 29) (.bool false) (by kernel_rfl) rfl rfl rfl (fun Lx => ?_) ?_
      · skip
        refine At.pickF rfl rfl rfl ?_
        refine At.ops0 ?_
        exact fun a ha => ⟨ha, rfl⟩
      refine At.wpcZ ?_
      refine At.thenN ?_
      refine At.condF rfl ?_
      refine At.exit ?_
      refine At.thenE ?_
      refine At.thenE ?_
      refine At.inE ?_
      refine At.thenN ?_
      refine At.seq ?_
      obtain ⟨uB, huB⟩ := some_of_lt (l := lb) (i := i) (by omega)
      refine At.cases (decide ((k : Int) = (lo.length : Int))) (fun hg3 => ?_) (fun hg3 => ?_)
      · skip
        have hg3' := of_decide_eq_true hg3
        refine At.drawG (n := 15) mixed (by kernel_rfl) rfl (PanicOk.then (PanicOk.block (PanicOk.then (PanicOk.then (PanicOk.block (PanicOk.then PanicOk.body)))))) ?_
        have hB := Below.drewB hB
        have hso := hso.drew
        refine At.wpcS (i := 0) (d := 32) (.int .i64 (k : Int)) (by kernel_rfl) rfl rfl rfl (fun Lx => ?_) ?_
        · skip
          refine At.move rfl rfl ?_
          refine At.ops0 ?_
          exact fun a ha => ⟨ha, rfl⟩
        refine At.wpcS (i := 1) (d := 33) (vo) (by kernel_rfl) rfl rfl rfl (fun Lx => ?_) ?_
        · skip
          refine At.move rfl rfl ?_
          refine At.ops0 ?_
          exact fun a ha => ⟨ha, rfl⟩
        refine At.wpcS (i := 2) (d := 34) (.int .i64 (lo.length : Int)) (by kernel_rfl) rfl rfl rfl (fun Lx => ?_) ?_
        · skip
          refine At.lenSl rfl (hso).ok el27 rfl ?_
          refine At.ops0 ?_
          exact fun a ha => ⟨ha, rfl⟩
        refine At.wpcS (i := 3) (d := 35) (.bool (decide ((k : Int) = (lo.length : Int)))) (by kernel_rfl) rfl rfl rfl (fun Lx => ?_) ?_
        · skip
          refine At.eqI rfl rfl rfl ?_
          refine At.ops0 ?_
          exact fun a ha => ⟨ha, rfl⟩
        refine At.set (d := 35) (u := .bool true) rfl (congrArg Value.bool hg3) ?_
        refine At.wpcS (i := 4) (d := 36) (.bool true) (by kernel_rfl) rfl rfl rfl (fun Lx => ?_) ?_
        · skip
          refine At.move rfl rfl ?_
          refine At.ops0 ?_
          exact fun a ha => ⟨ha, rfl⟩
        refine At.wpcS (i := 5) (d := 37) (undef) (by kernel_rfl) rfl rfl rfl (fun Lx => ?_) ?_
        · skip
          refine At.no rfl rfl rfl rfl rfl rfl rfl ?_
          refine At.ops0 ?_
          exact fun a ha => ⟨ha, rfl⟩
        refine At.wpcS (i := 6) (d := 38) (undef) (by kernel_rfl) rfl rfl rfl (fun Lx => ?_) ?_
        · skip
          refine At.no rfl rfl rfl rfl rfl rfl rfl ?_
          refine At.ops0 ?_
          exact fun a ha => ⟨ha, rfl⟩
        refine At.wpcS (i := 7) (d := 39) (undef) (by kernel_rfl) rfl rfl rfl (fun Lx => ?_) ?_
        · skip
          refine At.no rfl rfl rfl rfl rfl rfl rfl ?_
          refine At.ops0 ?_
          exact fun a ha => ⟨ha, rfl⟩
        refine At.wpcS (i := 8) (d := 40) (undef) (by kernel_rfl) rfl rfl rfl (fun Lx => ?_) ?_
        · skip
          refine At.no rfl rfl rfl rfl rfl rfl rfl ?_
          refine At.ops0 ?_
          exact fun a ha => ⟨ha, rfl⟩
        refine At.wpcS (i := 9) (d := 41) (undef) (by kernel_rfl) rfl rfl rfl (fun Lx => ?_) ?_
        · skip
          refine At.no rfl rfl rfl rfl rfl rfl rfl ?_
          refine At.ops0 ?_
          exact fun a ha => ⟨ha, rfl⟩
        refine At.wpcS (i := 10) (d := 42) (undef) (by kernel_rfl) rfl rfl rfl (fun Lx => ?_) ?_
        · skip
          refine At.no rfl rfl rfl rfl rfl rfl rfl ?_
          refine At.ops0 ?_
          exact fun a ha => ⟨ha, rfl⟩
        refine At.wpcS (i := 11) (d := 43) (undef) (by kernel_rfl) rfl rfl rfl (fun Lx => ?_) ?_
        · skip
          refine At.no rfl rfl rfl rfl rfl rfl rfl ?_
          refine At.ops0 ?_
          exact fun a ha => ⟨ha, rfl⟩
        refine At.wpcS (i := 12) (d := 44) (undef) (by kernel_rfl) rfl rfl rfl (fun Lx => ?_) ?_
        · skip
          refine At.no rfl rfl rfl rfl rfl rfl rfl ?_
          refine At.ops0 ?_
          exact fun a ha => ⟨ha, rfl⟩
        refine At.wpcS (i := 13) (d := 45) (undef) (by kernel_rfl) rfl rfl rfl (fun Lx => ?_) ?_
        · skip
          refine At.no rfl rfl rfl rfl rfl rfl rfl ?_
          refine At.ops0 ?_
          exact fun a ha => ⟨ha, rfl⟩
        refine At.wpcS (i := 14) (d := 46) (.bool true) (by kernel_rfl) rfl rfl rfl (fun Lx => ?_) ?_
        · skip
          refine At.pickT rfl rfl rfl ?_
          refine At.ops0 ?_
          exact fun a ha => ⟨ha, rfl⟩
        refine At.wpcZ ?_
        refine At.thenN ?_
        refine At.condT rfl ?_
        refine At.joinG (ι := Value) (fun va27 => [(1, u), (5, va27), (6, .int .i64 (i : Int))]) (fun va27 w48 => (Below w.heap.size w w48) ∧ (OwnS 9 w48 va27 ((([] ++ (lo.take k)) ++ [uB]) ++ (lo.drop k))) ∧ (∀ g, va27.ownBlock = some g → w.heap.size ≤ g)) ?_ (fun va27 w48 hS => ?_)
        · skip
          have hle6 : k ≤ lo.length := by first | omega | (simp only [List.length_append, List.length_take, List.length_drop, List.length_cons, List.length_nil]; omega)
          refine At.drawG (n := 16) mixed (by kernel_rfl) rfl (PanicOk.norm (PanicOk.block (PanicOk.then (PanicOk.then (PanicOk.block (PanicOk.then PanicOk.body)))))) ?_
          have hB := Below.drewB hB
          have hso := hso.drew
          refine At.wpcS (i := 1) (d := 48) (vo) (by kernel_rfl) rfl rfl rfl (fun Lx => ?_) ?_
          · skip
            refine At.move rfl rfl ?_
            refine At.ops0 ?_
            exact fun a ha => ⟨ha, rfl⟩
          refine At.wpcS (i := 2) (d := 49) (.int .i64 (k : Int)) (by kernel_rfl) rfl rfl rfl (fun Lx => ?_) ?_
          · skip
            refine At.move rfl rfl ?_
            refine At.ops0 ?_
            exact fun a ha => ⟨ha, rfl⟩
          refine At.wpcS (i := 3) (d := 50) ((takeV vo k)) (by kernel_rfl) rfl rfl rfl (fun Lx => ?_) ?_
          · skip
            refine At.sliceTo (h := k) rfl rfl (hso).ok el27 sz9 hle6 rfl ?_
            refine At.ops0 ?_
            exact fun a ha => ⟨ha, rfl⟩
          refine At.wpcS (i := 5) (d := 52) (u) (by kernel_rfl) rfl rfl rfl (fun Lx => ?_) ?_
          · skip
            refine At.move rfl rfl ?_
            refine At.ops0 ?_
            exact fun a ha => ⟨ha, rfl⟩
          refine At.wpcS (i := 6) (d := 53) (.int .i64 (i : Int)) (by kernel_rfl) rfl rfl rfl (fun Lx => ?_) ?_
          · skip
            refine At.move rfl rfl ?_
            refine At.ops0 ?_
            exact fun a ha => ⟨ha, rfl⟩
          refine At.wpcS (i := 7) (d := 54) (.pointer (some ⟨vBlock u, vOff u + i * 1, none⟩)) (by kernel_rfl) rfl rfl rfl (fun Lx => ?_) ?_
          · skip
            refine At.indexAddr (i := i) rfl rfl (hu).ok (lt_of_some huB) el27 sz9 rfl ?_
            refine At.ops0 ?_
            exact fun a ha => ⟨ha, rfl⟩
          refine At.wpcS (i := 8) (d := 55) (.string uB) (by kernel_rfl) rfl rfl rfl (fun Lx => ?_) ?_
          · skip
            refine At.load rfl (Ld.cell ag9 (cell_keep ((hu).get huB) hB)) rfl ?_
            refine At.ops0 ?_
            exact fun a ha => ⟨ha, rfl⟩
          refine At.wpcS (i := 11) (d := 58) (vo) (by kernel_rfl) rfl rfl rfl (fun Lx => ?_) ?_
          · skip
            refine At.move rfl rfl ?_
            refine At.ops0 ?_
            exact fun a ha => ⟨ha, rfl⟩
          refine At.wpcS (i := 12) (d := 59) (.int .i64 (k : Int)) (by kernel_rfl) rfl rfl rfl (fun Lx => ?_) ?_
          · skip
            refine At.move rfl rfl ?_
            refine At.ops0 ?_
            exact fun a ha => ⟨ha, rfl⟩
          refine At.wpcS (i := 13) (d := 60) ((dropV 1 vo k)) (by kernel_rfl) rfl rfl rfl (fun Lx => ?_) ?_
          · skip
            refine At.sliceFrom (h := k) rfl rfl (hso).ok el27 sz9 hle6 rfl ?_
            refine At.ops0 ?_
            exact fun a ha => ⟨ha, rfl⟩
          refine At.wpcE [0, 9] (by kernel_rfl) (by kernel_rfl) (.cons [1, 2, 3, 5, 6, 7, 8, 11, 12, 13] rfl (by kernel_rfl) ?_ (.cons [1, 2, 3, 11, 12, 13] rfl (by kernel_rfl) ?_ .nil))
          · skip
            refine At.buildSlice (xs := []) rfl rfl el27 sz9 ze9 (by simp) rfl (by decide) rfl (fun b17 w49 F17 => ?_)
            have gb17 := F17.ge hB
            have has35 := ApartS.fresh (n := 0) (c := 0) hso F17
            replace hso := hso.fresh F17
            have hb17 : w49.heap[b17]? = some (.cells #[] 9) := F17.new
            replace hB := F17.below' hB
            have hO35 : OwnS 9 w49 (.slice (some ⟨b17, 0, none⟩) 0 0) [] := OwnS.made (ss := []) hb17 rfl (by decide)
            have ghO35 : ∀ g, Value.ownBlock (.slice (some ⟨b17, 0, none⟩) 0 0) = some g → w.heap.size ≤ g := fun g h => by cases h; exact gb17
            clear hb17
            refine At.ops0 ?_
            refine At.wpcN (.cons rfl rfl rfl rfl (fun Lx => ?_) (.cons rfl rfl rfl rfl (fun Lx => ?_) (.cons rfl rfl rfl rfl (fun Lx => ?_) (.cons rfl rfl rfl rfl (fun Lx => ?_) (.cons rfl rfl rfl rfl (fun Lx => ?_) (.cons rfl rfl rfl rfl (fun Lx => ?_) (.cons rfl rfl rfl rfl (fun Lx => ?_) (.cons rfl rfl rfl rfl (fun Lx => ?_) (.cons rfl rfl rfl rfl (fun Lx => ?_) (.cons rfl rfl rfl rfl (fun Lx => ?_) .nil)))))))))) ?_
            · skip
              refine At.move rfl rfl ?_
              refine At.ops0 ?_
              exact fun a ha => ⟨ha, rfl⟩
            · skip
              refine At.move rfl rfl ?_
              refine At.ops0 ?_
              exact fun a ha => ⟨ha, rfl⟩
            · skip
              refine At.sliceTo (h := k) rfl rfl (hso).ok el27 sz9 hle6 rfl ?_
              refine At.ops0 ?_
              exact fun a ha => ⟨ha, rfl⟩
            · skip
              refine At.move rfl rfl ?_
              refine At.ops0 ?_
              exact fun a ha => ⟨ha, rfl⟩
            · skip
              refine At.move rfl rfl ?_
              refine At.ops0 ?_
              exact fun a ha => ⟨ha, rfl⟩
            · skip
              refine At.indexAddr (i := i) rfl rfl (hu).ok (lt_of_some huB) el27 sz9 rfl ?_
              refine At.ops0 ?_
              exact fun a ha => ⟨ha, rfl⟩
            · skip
              refine At.load rfl (Ld.cell ag9 (cell_keep ((hu).get huB) hB)) rfl ?_
              refine At.ops0 ?_
              exact fun a ha => ⟨ha, rfl⟩
            · skip
              refine At.move rfl rfl ?_
              refine At.ops0 ?_
              exact fun a ha => ⟨ha, rfl⟩
            · skip
              refine At.move rfl rfl ?_
              refine At.ops0 ?_
              exact fun a ha => ⟨ha, rfl⟩
            · skip
              refine At.sliceFrom (h := k) rfl rfl (hso).ok el27 sz9 hle6 rfl ?_
              refine At.ops0 ?_
              exact fun a ha => ⟨ha, rfl⟩
            refine At.wpcE [4, 9] (by kernel_rfl) (by kernel_rfl) (.cons [5, 6, 7, 8, 11, 12, 13] rfl (by kernel_rfl) ?_ (.cons [1, 2, 3, 11, 12, 13] rfl (by kernel_rfl) ?_ .nil))
            · skip
              refine At.appendS (ss := []) rfl rfl el27 el27 sz9 by9 ze9 rfl hO35 (((StrsAt.take hso hle6)).keep (Below.refl _ _)) (by first | omega | (simp only [List.length_append, List.length_take, List.length_drop, List.length_cons, List.length_nil]; omega)) rfl (fun va28 w50 hO36 hA28 => ?_)
              have has36 := ApartS.app has35 hA28 hso
              replace hso := AppR.strs hA28 hso has35
              have ghO36 := hA28.ge hB.size ghO35
              replace hB := hA28.below hB hB.size ghO35
              refine At.ops0 ?_
              refine At.wpcN (.cons rfl rfl rfl rfl (fun Lx => ?_) (.cons rfl rfl rfl rfl (fun Lx => ?_) (.cons rfl rfl rfl rfl (fun Lx => ?_) (.cons rfl rfl rfl rfl (fun Lx => ?_) (.cons rfl rfl rfl rfl (fun Lx => ?_) (.cons rfl rfl rfl rfl (fun Lx => ?_) (.cons rfl rfl rfl rfl (fun Lx => ?_) .nil))))))) ?_
              · skip
                refine At.move rfl rfl ?_
                refine At.ops0 ?_
                exact fun a ha => ⟨ha, rfl⟩
              · skip
                refine At.move rfl rfl ?_
                refine At.ops0 ?_
                exact fun a ha => ⟨ha, rfl⟩
              · skip
                refine At.indexAddr (i := i) rfl rfl (hu).ok (lt_of_some huB) el27 sz9 rfl ?_
                refine At.ops0 ?_
                exact fun a ha => ⟨ha, rfl⟩
              · skip
                refine At.load rfl (Ld.cell ag9 (cell_keep ((hu).get huB) hB)) rfl ?_
                refine At.ops0 ?_
                exact fun a ha => ⟨ha, rfl⟩
              · skip
                refine At.move rfl rfl ?_
                refine At.ops0 ?_
                exact fun a ha => ⟨ha, rfl⟩
              · skip
                refine At.move rfl rfl ?_
                refine At.ops0 ?_
                exact fun a ha => ⟨ha, rfl⟩
              · skip
                refine At.sliceFrom (h := k) rfl rfl (hso).ok el27 sz9 hle6 rfl ?_
                refine At.ops0 ?_
                exact fun a ha => ⟨ha, rfl⟩
              refine At.wpcE [9] (by kernel_rfl) (by kernel_rfl) (.cons [11, 12, 13] rfl (by kernel_rfl) ?_ .nil)
              refine At.buildSlice (xs := [.tmp 55]) rfl rfl el27 sz9 ze9 (by intro v hv; simp only [List.mem_cons, List.not_mem_nil, or_false] at hv; rcases hv with rfl <;> first | rfl | simp [Value.cells, Value.cells]) rfl (by decide) rfl (fun b18 w51 F18 => ?_)
              have q_hO36_b18 : some b18 ≠ Value.ownBlock va28 := Own.neFresh hO36 F18
              have gb18 := F18.ge hB
              replace hso := hso.fresh F18
              replace hO36 := hO36.fresh F18
              have hb18 : w51.heap[b18]? = some (.cells #[.string uB] 9) := F18.new
              replace hB := F18.below' hB
              refine At.ops0 ?_
              refine At.wpcN (.cons rfl rfl rfl rfl (fun Lx => ?_) (.cons rfl rfl rfl rfl (fun Lx => ?_) (.cons rfl rfl rfl rfl (fun Lx => ?_) .nil))) ?_
              · skip
                refine At.move rfl rfl ?_
                refine At.ops0 ?_
                exact fun a ha => ⟨ha, rfl⟩
              · skip
                refine At.move rfl rfl ?_
                refine At.ops0 ?_
                exact fun a ha => ⟨ha, rfl⟩
              · skip
                refine At.sliceFrom (h := k) rfl rfl (hso).ok el27 sz9 hle6 rfl ?_
                refine At.ops0 ?_
                exact fun a ha => ⟨ha, rfl⟩
              refine At.wpcE [10] (by kernel_rfl) (by kernel_rfl) (.cons [11, 12, 13] rfl (by kernel_rfl) ?_ .nil)
              refine At.appendS (ss := ([] ++ (lo.take k))) rfl rfl el27 el27 sz9 by9 ze9 rfl hO36 ((StrsAt.own (ss := [uB]) hb18 rfl (by decide) : StrsAt _ (.slice (some ⟨b18, 0, none⟩) 1 1) [uB])) (by first | omega | (simp only [List.length_append, List.length_take, List.length_drop, List.length_cons, List.length_nil]; omega)) rfl (fun va29 w52 hO37 hA29 => ?_)
              clear hb18
              have has37 := ApartS.app has36 hA29 hso
              replace hso := AppR.strs hA29 hso has36
              have ghO37 := hA29.ge hB.size ghO36
              replace hB := hA29.below hB hB.size ghO36
              refine At.ops0 ?_
              refine At.wpcN (.cons rfl rfl rfl rfl (fun Lx => ?_) (.cons rfl rfl rfl rfl (fun Lx => ?_) (.cons rfl rfl rfl rfl (fun Lx => ?_) .nil))) ?_
              · skip
                refine At.move rfl rfl ?_
                refine At.ops0 ?_
                exact fun a ha => ⟨ha, rfl⟩
              · skip
                refine At.move rfl rfl ?_
                refine At.ops0 ?_
                exact fun a ha => ⟨ha, rfl⟩
              · skip
                refine At.sliceFrom (h := k) rfl rfl (hso).ok el27 sz9 hle6 rfl ?_
                refine At.ops0 ?_
                exact fun a ha => ⟨ha, rfl⟩
              refine At.wpcE [14] (by kernel_rfl) (by kernel_rfl) (.cons [] rfl (by kernel_rfl) ?_ .nil)
              refine At.appendS (ss := (([] ++ (lo.take k)) ++ [uB])) rfl rfl el27 el27 sz9 by9 ze9 rfl hO37 (((StrsAt.drop hso hle6)).keep (Below.refl _ _)) (by first | omega | (simp only [List.length_append, List.length_take, List.length_drop, List.length_cons, List.length_nil]; omega)) rfl (fun va30 w53 hO38 hA30 => ?_)
              have has38 := ApartS.app has37 hA30 hso
              replace hso := AppR.strs hA30 hso has37
              have ghO38 := hA30.ge hB.size ghO37
              replace hB := hA30.below hB hB.size ghO37
              refine At.ops0 ?_
              refine At.wpcN .nil ?_
              refine At.wpcE [15] (by kernel_rfl) (by kernel_rfl) (.cons [] rfl (by kernel_rfl) ?_ .nil)
              refine At.assign rfl rfl ?_
              refine At.ops0 ?_
              refine At.wpcN .nil ?_
              refine At.wpcZ ?_
              exact At.joinedG va30 (Sub.cons rfl (Sub.cons rfl (Sub.cons rfl Sub.nil))) ⟨hB, hO38, ghO38⟩
            · skip
              refine At.buildSlice (xs := [.tmp 55]) rfl rfl el27 sz9 ze9 (by intro v hv; simp only [List.mem_cons, List.not_mem_nil, or_false] at hv; rcases hv with rfl <;> first | rfl | simp [Value.cells, Value.cells]) rfl (by decide) rfl (fun b19 w54 F19 => ?_)
              have q_hO35_b19 : some b19 ≠ Value.ownBlock (.slice (some ⟨b17, 0, none⟩) 0 0) := Own.neFresh hO35 F19
              have gb19 := F19.ge hB
              replace hso := hso.fresh F19
              replace hO35 := hO35.fresh F19
              have hb19 : w54.heap[b19]? = some (.cells #[.string uB] 9) := F19.new
              replace hB := F19.below' hB
              refine At.ops0 ?_
              refine At.wpcN (.cons rfl rfl rfl rfl (fun Lx => ?_) (.cons rfl rfl rfl rfl (fun Lx => ?_) (.cons rfl rfl rfl rfl (fun Lx => ?_) (.cons rfl rfl rfl rfl (fun Lx => ?_) (.cons rfl rfl rfl rfl (fun Lx => ?_) (.cons rfl rfl rfl rfl (fun Lx => ?_) .nil)))))) ?_
              · skip
                refine At.move rfl rfl ?_
                refine At.ops0 ?_
                exact fun a ha => ⟨ha, rfl⟩
              · skip
                refine At.move rfl rfl ?_
                refine At.ops0 ?_
                exact fun a ha => ⟨ha, rfl⟩
              · skip
                refine At.sliceTo (h := k) rfl rfl (hso).ok el27 sz9 hle6 rfl ?_
                refine At.ops0 ?_
                exact fun a ha => ⟨ha, rfl⟩
              · skip
                refine At.move rfl rfl ?_
                refine At.ops0 ?_
                exact fun a ha => ⟨ha, rfl⟩
              · skip
                refine At.move rfl rfl ?_
                refine At.ops0 ?_
                exact fun a ha => ⟨ha, rfl⟩
              · skip
                refine At.sliceFrom (h := k) rfl rfl (hso).ok el27 sz9 hle6 rfl ?_
                refine At.ops0 ?_
                exact fun a ha => ⟨ha, rfl⟩
              refine At.wpcE [4] (by kernel_rfl) (by kernel_rfl) (.cons [11, 12, 13] rfl (by kernel_rfl) ?_ .nil)
              refine At.appendS (ss := []) rfl rfl el27 el27 sz9 by9 ze9 rfl hO35 (((StrsAt.take hso hle6)).keep (Below.refl _ _)) (by first | omega | (simp only [List.length_append, List.length_take, List.length_drop, List.length_cons, List.length_nil]; omega)) rfl (fun va31 w55 hO39 hA31 => ?_)
              have q_hO39_b19 : some b19 ≠ Value.ownBlock va31 := Moved.ne hA31.blk (Array.getElem?_eq_some_iff.1 hb19).1 q_hO35_b19
              replace hb19 := hA31.old hb19 q_hO35_b19
              have has39 := ApartS.app has35 hA31 hso
              replace hso := AppR.strs hA31 hso has35
              have ghO39 := hA31.ge hB.size ghO35
              replace hB := hA31.below hB hB.size ghO35
              refine At.ops0 ?_
              refine At.wpcN (.cons rfl rfl rfl rfl (fun Lx => ?_) (.cons rfl rfl rfl rfl (fun Lx => ?_) (.cons rfl rfl rfl rfl (fun Lx => ?_) .nil))) ?_
              · skip
                refine At.move rfl rfl ?_
                refine At.ops0 ?_
                exact fun a ha => ⟨ha, rfl⟩
              · skip
                refine At.move rfl rfl ?_
                refine At.ops0 ?_
                exact fun a ha => ⟨ha, rfl⟩
              · skip
                refine At.sliceFrom (h := k) rfl rfl (hso).ok el27 sz9 hle6 rfl ?_
                refine At.ops0 ?_
                exact fun a ha => ⟨ha, rfl⟩
              refine At.wpcE [10] (by kernel_rfl) (by kernel_rfl) (.cons [11, 12, 13] rfl (by kernel_rfl) ?_ .nil)
              refine At.appendS (ss := ([] ++ (lo.take k))) rfl rfl el27 el27 sz9 by9 ze9 rfl hO39 ((StrsAt.own (ss := [uB]) hb19 rfl (by decide) : StrsAt _ (.slice (some ⟨b19, 0, none⟩) 1 1) [uB])) (by first | omega | (simp only [List.length_append, List.length_take, List.length_drop, List.length_cons, List.length_nil]; omega)) rfl (fun va32 w56 hO40 hA32 => ?_)
              clear hb19
              have has40 := ApartS.app has39 hA32 hso
              replace hso := AppR.strs hA32 hso has39
              have ghO40 := hA32.ge hB.size ghO39
              replace hB := hA32.below hB hB.size ghO39
              refine At.ops0 ?_
              refine At.wpcN (.cons rfl rfl rfl rfl (fun Lx => ?_) (.cons rfl rfl rfl rfl (fun Lx => ?_) (.cons rfl rfl rfl rfl (fun Lx => ?_) .nil))) ?_
              · skip
                refine At.move rfl rfl ?_
                refine At.ops0 ?_
                exact fun a ha => ⟨ha, rfl⟩
              · skip
                refine At.move rfl rfl ?_
                refine At.ops0 ?_
                exact fun a ha => ⟨ha, rfl⟩
              · skip
                refine At.sliceFrom (h := k) rfl rfl (hso).ok el27 sz9 hle6 rfl ?_
                refine At.ops0 ?_
                exact fun a ha => ⟨ha, rfl⟩
              refine At.wpcE [14] (by kernel_rfl) (by kernel_rfl) (.cons [] rfl (by kernel_rfl) ?_ .nil)
              refine At.appendS (ss := (([] ++ (lo.take k)) ++ [uB])) rfl rfl el27 el27 sz9 by9 ze9 rfl hO40 (((StrsAt.drop hso hle6)).keep (Below.refl _ _)) (by first | omega | (simp only [List.length_append, List.length_take, List.length_drop, List.length_cons, List.length_nil]; omega)) rfl (fun va33 w57 hO41 hA33 => ?_)
              have has41 := ApartS.app has40 hA33 hso
              replace hso := AppR.strs hA33 hso has40
              have ghO41 := hA33.ge hB.size ghO40
              replace hB := hA33.below hB hB.size ghO40
              refine At.ops0 ?_
              refine At.wpcN .nil ?_
              refine At.wpcE [15] (by kernel_rfl) (by kernel_rfl) (.cons [] rfl (by kernel_rfl) ?_ .nil)
              refine At.assign rfl rfl ?_
              refine At.ops0 ?_
              refine At.wpcN .nil ?_
              refine At.wpcZ ?_
              exact At.joinedG va33 (Sub.cons rfl (Sub.cons rfl (Sub.cons rfl Sub.nil))) ⟨hB, hO41, ghO41⟩
          · skip
            refine At.buildSlice (xs := [.tmp 55]) rfl rfl el27 sz9 ze9 (by intro v hv; simp only [List.mem_cons, List.not_mem_nil, or_false] at hv; rcases hv with rfl <;> first | rfl | simp [Value.cells, Value.cells]) rfl (by decide) rfl (fun b20 w58 F20 => ?_)
            have gb20 := F20.ge hB
            replace hso := hso.fresh F20
            have hb20 : w58.heap[b20]? = some (.cells #[.string uB] 9) := F20.new
            replace hB := F20.below' hB
            refine At.ops0 ?_
            refine At.wpcN (.cons rfl rfl rfl rfl (fun Lx => ?_) (.cons rfl rfl rfl rfl (fun Lx => ?_) (.cons rfl rfl rfl rfl (fun Lx => ?_) (.cons rfl rfl rfl rfl (fun Lx => ?_) (.cons rfl rfl rfl rfl (fun Lx => ?_) (.cons rfl rfl rfl rfl (fun Lx => ?_) .nil)))))) ?_
            · skip
              refine At.move rfl rfl ?_
              refine At.ops0 ?_
              exact fun a ha => ⟨ha, rfl⟩
            · skip
              refine At.move rfl rfl ?_
              refine At.ops0 ?_
              exact fun a ha => ⟨ha, rfl⟩
            · skip
              refine At.sliceTo (h := k) rfl rfl (hso).ok el27 sz9 hle6 rfl ?_
              refine At.ops0 ?_
              exact fun a ha => ⟨ha, rfl⟩
            · skip
              refine At.move rfl rfl ?_
              refine At.ops0 ?_
              exact fun a ha => ⟨ha, rfl⟩
            · skip
              refine At.move rfl rfl ?_
              refine At.ops0 ?_
              exact fun a ha => ⟨ha, rfl⟩
            · skip
              refine At.sliceFrom (h := k) rfl rfl (hso).ok el27 sz9 hle6 rfl ?_
              refine At.ops0 ?_
              exact fun a ha => ⟨ha, rfl⟩
            refine At.wpcE [0] (by kernel_rfl) (by kernel_rfl) (.cons [1, 2, 3, 11, 12, 13] rfl (by kernel_rfl) ?_ .nil)
            refine At.buildSlice (xs := []) rfl rfl el27 sz9 ze9 (by simp) rfl (by decide) rfl (fun b21 w59 F21 => ?_)
            have n_b20_b21 : b20 ≠ b21 := Nat.ne_of_lt (F21.lt hb20)
            have gb21 := F21.ge hB
            replace hb20 := F21.old hb20
            have has42 := ApartS.fresh (n := 0) (c := 0) hso F21
            replace hso := hso.fresh F21
            have hb21 : w59.heap[b21]? = some (.cells #[] 9) := F21.new
            replace hB := F21.below' hB
            have hO42 : OwnS 9 w59 (.slice (some ⟨b21, 0, none⟩) 0 0) [] := OwnS.made (ss := []) hb21 rfl (by decide)
            have ghO42 : ∀ g, Value.ownBlock (.slice (some ⟨b21, 0, none⟩) 0 0) = some g → w.heap.size ≤ g := fun g h => by cases h; exact gb21
            have qhO42_b20 : some b20 ≠ Value.ownBlock (.slice (some ⟨b21, 0, none⟩) 0 0) := fun e => n_b20_b21 (Option.some.inj e)
            clear hb21
            refine At.ops0 ?_
            refine At.wpcN (.cons rfl rfl rfl rfl (fun Lx => ?_) (.cons rfl rfl rfl rfl (fun Lx => ?_) (.cons rfl rfl rfl rfl (fun Lx => ?_) (.cons rfl rfl rfl rfl (fun Lx => ?_) (.cons rfl rfl rfl rfl (fun Lx => ?_) (.cons rfl rfl rfl rfl (fun Lx => ?_) .nil)))))) ?_
            · skip
              refine At.move rfl rfl ?_
              refine At.ops0 ?_
              exact fun a ha => ⟨ha, rfl⟩
            · skip
              refine At.move rfl rfl ?_
              refine At.ops0 ?_
              exact fun a ha => ⟨ha, rfl⟩
            · skip
              refine At.sliceTo (h := k) rfl rfl (hso).ok el27 sz9 hle6 rfl ?_
              refine At.ops0 ?_
              exact fun a ha => ⟨ha, rfl⟩
            · skip
              refine At.move rfl rfl ?_
              refine At.ops0 ?_
              exact fun a ha => ⟨ha, rfl⟩
            · skip
              refine At.move rfl rfl ?_
              refine At.ops0 ?_
              exact fun a ha => ⟨ha, rfl⟩
            · skip
              refine At.sliceFrom (h := k) rfl rfl (hso).ok el27 sz9 hle6 rfl ?_
              refine At.ops0 ?_
              exact fun a ha => ⟨ha, rfl⟩
            refine At.wpcE [4] (by kernel_rfl) (by kernel_rfl) (.cons [11, 12, 13] rfl (by kernel_rfl) ?_ .nil)
            refine At.appendS (ss := []) rfl rfl el27 el27 sz9 by9 ze9 rfl hO42 (((StrsAt.take hso hle6)).keep (Below.refl _ _)) (by first | omega | (simp only [List.length_append, List.length_take, List.length_drop, List.length_cons, List.length_nil]; omega)) rfl (fun va34 w60 hO43 hA34 => ?_)
            have q_hO43_b20 : some b20 ≠ Value.ownBlock va34 := Moved.ne hA34.blk (Array.getElem?_eq_some_iff.1 hb20).1 qhO42_b20
            replace hb20 := hA34.old hb20 qhO42_b20
            have has43 := ApartS.app has42 hA34 hso
            replace hso := AppR.strs hA34 hso has42
            have ghO43 := hA34.ge hB.size ghO42
            replace hB := hA34.below hB hB.size ghO42
            refine At.ops0 ?_
            refine At.wpcN (.cons rfl rfl rfl rfl (fun Lx => ?_) (.cons rfl rfl rfl rfl (fun Lx => ?_) (.cons rfl rfl rfl rfl (fun Lx => ?_) .nil))) ?_
            · skip
              refine At.move rfl rfl ?_
              refine At.ops0 ?_
              exact fun a ha => ⟨ha, rfl⟩
            · skip
              refine At.move rfl rfl ?_
              refine At.ops0 ?_
              exact fun a ha => ⟨ha, rfl⟩
            · skip
              refine At.sliceFrom (h := k) rfl rfl (hso).ok el27 sz9 hle6 rfl ?_
              refine At.ops0 ?_
              exact fun a ha => ⟨ha, rfl⟩
            refine At.wpcE [10] (by kernel_rfl) (by kernel_rfl) (.cons [11, 12, 13] rfl (by kernel_rfl) ?_ .nil)
            refine At.appendS (ss := ([] ++ (lo.take k))) rfl rfl el27 el27 sz9 by9 ze9 rfl hO43 ((StrsAt.own (ss := [uB]) hb20 rfl (by decide) : StrsAt _ (.slice (some ⟨b20, 0, none⟩) 1 1) [uB])) (by first | omega | (simp only [List.length_append, List.length_take, List.length_drop, List.length_cons, List.length_nil]; omega)) rfl (fun va35 w61 hO44 hA35 => ?_)
            clear hb20
            have has44 := ApartS.app has43 hA35 hso
            replace hso := AppR.strs hA35 hso has43
            have ghO44 := hA35.ge hB.size ghO43
            replace hB := hA35.below hB hB.size ghO43
            refine At.ops0 ?_
            refine At.wpcN (.cons rfl rfl rfl rfl (fun Lx => ?_) (.cons rfl rfl rfl rfl (fun Lx => ?_) (.cons rfl rfl rfl rfl (fun Lx => ?_) .nil))) ?_
            · skip
              refine At.move rfl rfl ?_
              refine At.ops0 ?_
              exact fun a ha => ⟨ha, rfl⟩
            · skip
              refine At.move rfl rfl ?_
              refine At.ops0 ?_
              exact fun a ha => ⟨ha, rfl⟩
            · skip
              refine At.sliceFrom (h := k) rfl rfl (hso).ok el27 sz9 hle6 rfl ?_
              refine At.ops0 ?_
              exact fun a ha => ⟨ha, rfl⟩
            refine At.wpcE [14] (by kernel_rfl) (by kernel_rfl) (.cons [] rfl (by kernel_rfl) ?_ .nil)
            refine At.appendS (ss := (([] ++ (lo.take k)) ++ [uB])) rfl rfl el27 el27 sz9 by9 ze9 rfl hO44 (((StrsAt.drop hso hle6)).keep (Below.refl _ _)) (by first | omega | (simp only [List.length_append, List.length_take, List.length_drop, List.length_cons, List.length_nil]; omega)) rfl (fun va36 w62 hO45 hA36 => ?_)
            have has45 := ApartS.app has44 hA36 hso
            replace hso := AppR.strs hA36 hso has44
            have ghO45 := hA36.ge hB.size ghO44
            replace hB := hA36.below hB hB.size ghO44
            refine At.ops0 ?_
            refine At.wpcN .nil ?_
            refine At.wpcE [15] (by kernel_rfl) (by kernel_rfl) (.cons [] rfl (by kernel_rfl) ?_ .nil)
            refine At.assign rfl rfl ?_
            refine At.ops0 ?_
            refine At.wpcN .nil ?_
            refine At.wpcZ ?_
            exact At.joinedG va36 (Sub.cons rfl (Sub.cons rfl (Sub.cons rfl Sub.nil))) ⟨hB, hO45, ghO45⟩
        · skip
          clear hB hso
          obtain ⟨hB, hO34, ghO34⟩ := hS
          show At _ _ [(1, u), (5, va27), (6, .int .i64 (i : Int))] _ _
          refine At.inN ?_
          refine At.thenN ?_
          refine At.region ?_
          refine At.move rfl rfl ?_
          refine At.addI rfl rfl rfl (by first | omega | (simp only [List.length_append, List.length_take, List.length_drop, List.length_cons, List.length_nil]; omega)) ?_
          refine At.assign rfl rfl ?_
          refine At.ops0 ?_
          refine At.thenN ?_
          exact fun a ha => ⟨((i + 1), va27, ((([] ++ (lo.take k)) ++ [uB]) ++ (lo.drop k))), ha.sub (Sub.cons rfl (Sub.cons rfl (Sub.cons rfl Sub.nil))), ⟨hB, (hO34).strs, (by omega), (by simp only [List.length_append, List.length_take, List.length_drop, List.length_cons, List.length_nil]; omega), (fun x => by rw [memB_ins, hmem, memB_take huB, Bool.or_assoc])⟩, by first | omega | (dsimp only; omega)⟩
      · skip
        have hg3' := of_decide_eq_false hg3
        obtain ⟨u2, hu2⟩ := some_of_lt (l := lo) (i := k) (by first | omega | (simp only [List.length_append, List.length_take, List.length_drop, List.length_cons, List.length_nil]; omega))
        refine At.drawG (n := 15) mixed (by kernel_rfl) rfl (PanicOk.then (PanicOk.block (PanicOk.then (PanicOk.then (PanicOk.block (PanicOk.then PanicOk.body)))))) ?_
        have hB := Below.drewB hB
        have hso := hso.drew
        refine At.wpcS (i := 0) (d := 32) (.int .i64 (k : Int)) (by kernel_rfl) rfl rfl rfl (fun Lx => ?_) ?_
        · skip
          refine At.move rfl rfl ?_
          refine At.ops0 ?_
          exact fun a ha => ⟨ha, rfl⟩
        refine At.wpcS (i := 1) (d := 33) (vo) (by kernel_rfl) rfl rfl rfl (fun Lx => ?_) ?_
        · skip
          refine At.move rfl rfl ?_
          refine At.ops0 ?_
          exact fun a ha => ⟨ha, rfl⟩
        refine At.wpcS (i := 2) (d := 34) (.int .i64 (lo.length : Int)) (by kernel_rfl) rfl rfl rfl (fun Lx => ?_) ?_
        · skip
          refine At.lenSl rfl (hso).ok el27 rfl ?_
          refine At.ops0 ?_
          exact fun a ha => ⟨ha, rfl⟩
        refine At.wpcS (i := 3) (d := 35) (.bool (decide ((k : Int) = (lo.length : Int)))) (by kernel_rfl) rfl rfl rfl (fun Lx => ?_) ?_
        · skip
          refine At.eqI rfl rfl rfl ?_
          refine At.ops0 ?_
          exact fun a ha => ⟨ha, rfl⟩
        refine At.set (d := 35) (u := .bool false) rfl (congrArg Value.bool hg3) ?_
        refine At.wpcS (i := 4) (d := 36) (.bool false) (by kernel_rfl) rfl rfl rfl (fun Lx => ?_) ?_
        · skip
          refine At.move rfl rfl ?_
          refine At.ops0 ?_
          exact fun a ha => ⟨ha, rfl⟩
        refine At.wpcS (i := 5) (d := 37) (vo) (by kernel_rfl) rfl rfl rfl (fun Lx => ?_) ?_
        · skip
          refine At.yes rfl rfl rfl rfl ?_
          refine At.move rfl rfl ?_
          refine At.ops0 ?_
          exact fun a ha => ⟨ha, rfl⟩
        refine At.wpcS (i := 6) (d := 38) (.int .i64 (k : Int)) (by kernel_rfl) rfl rfl rfl (fun Lx => ?_) ?_
        · skip
          refine At.yes rfl rfl rfl rfl ?_
          refine At.move rfl rfl ?_
          refine At.ops0 ?_
          exact fun a ha => ⟨ha, rfl⟩
        refine At.wpcS (i := 7) (d := 39) (.pointer (some ⟨vBlock vo, vOff vo + k * 1, none⟩)) (by kernel_rfl) rfl rfl rfl (fun Lx => ?_) ?_
        · skip
          refine At.yes rfl rfl rfl rfl ?_
          refine At.indexAddr (i := k) rfl rfl (hso).ok (lt_of_some hu2) el27 sz9 rfl ?_
          refine At.ops0 ?_
          exact fun a ha => ⟨ha, rfl⟩
        refine At.wpcS (i := 8) (d := 40) (.string u2) (by kernel_rfl) rfl rfl rfl (fun Lx => ?_) ?_
        · skip
          refine At.yes rfl rfl rfl rfl ?_
          refine At.load rfl (Ld.cell ag9 (cell_keep ((hso).get hu2) (Below.refl _ _))) rfl ?_
          refine At.ops0 ?_
          exact fun a ha => ⟨ha, rfl⟩
        refine At.wpcS (i := 9) (d := 41) (u) (by kernel_rfl) rfl rfl rfl (fun Lx => ?_) ?_
        · skip
          refine At.yes rfl rfl rfl rfl ?_
          refine At.move rfl rfl ?_
          refine At.ops0 ?_
          exact fun a ha => ⟨ha, rfl⟩
        refine At.wpcS (i := 10) (d := 42) (.int .i64 (i : Int)) (by kernel_rfl) rfl rfl rfl (fun Lx => ?_) ?_
        · skip
          refine At.yes rfl rfl rfl rfl ?_
          refine At.move rfl rfl ?_
          refine At.ops0 ?_
          exact fun a ha => ⟨ha, rfl⟩
        refine At.wpcS (i := 11) (d := 43) (.pointer (some ⟨vBlock u, vOff u + i * 1, none⟩)) (by kernel_rfl) rfl rfl rfl (fun Lx => ?_) ?_
        · skip
          refine At.yes rfl rfl rfl rfl ?_
          refine At.indexAddr (i := i) rfl rfl (hu).ok (lt_of_some huB) el27 sz9 rfl ?_
          refine At.ops0 ?_
          exact fun a ha => ⟨ha, rfl⟩
        refine At.wpcS (i := 12) (d := 44) (.string uB) (by kernel_rfl) rfl rfl rfl (fun Lx => ?_) ?_
        · skip
          refine At.yes rfl rfl rfl rfl ?_
          refine At.load rfl (Ld.cell ag9 (cell_keep ((hu).get huB) hB)) rfl ?_
          refine At.ops0 ?_
          exact fun a ha => ⟨ha, rfl⟩
        refine At.wpcS (i := 13) (d := 45) (.bool (!decide (u2 = uB))) (by kernel_rfl) rfl rfl rfl (fun Lx => ?_) ?_
        · skip
          refine At.yes rfl rfl rfl rfl ?_
          refine At.neS rfl rfl rfl ?_
          refine At.ops0 ?_
          exact fun a ha => ⟨ha, rfl⟩
        refine At.wpcS (i := 14) (d := 46) (.bool (!decide (u2 = uB))) (by kernel_rfl) rfl rfl rfl (fun Lx => ?_) ?_
        · skip
          refine At.pickF rfl rfl rfl ?_
          refine At.ops0 ?_
          exact fun a ha => ⟨ha, rfl⟩
        refine At.wpcZ ?_
        refine At.thenN ?_
        refine At.cond (b := (!decide (u2 = uB))) rfl (fun hc4 => ?_) (fun hc4 => ?_)
        · skip
          have hc4' := hc4; simp only [Bool.not_eq_true', Bool.not_eq_false', decide_eq_true_eq, decide_eq_false_iff_not] at hc4'
          refine At.joinG (ι := Value) (fun va39 => [(1, u), (5, va39), (6, .int .i64 (i : Int))]) (fun va39 w68 => (Below w.heap.size w w68) ∧ (OwnS 9 w68 va39 ((([] ++ (lo.take k)) ++ [uB]) ++ (lo.drop k))) ∧ (∀ g, va39.ownBlock = some g → w.heap.size ≤ g)) ?_ (fun va39 w68 hS => ?_)
          · skip
            have hle8 : k ≤ lo.length := by first | omega | (simp only [List.length_append, List.length_take, List.length_drop, List.length_cons, List.length_nil]; omega)
            refine At.drawG (n := 16) mixed (by kernel_rfl) rfl (PanicOk.norm (PanicOk.block (PanicOk.then (PanicOk.then (PanicOk.block (PanicOk.then PanicOk.body)))))) ?_
            have hB := Below.drewB hB
            have hso := hso.drew
            refine At.wpcS (i := 1) (d := 48) (vo) (by kernel_rfl) rfl rfl rfl (fun Lx => ?_) ?_
            · skip
              refine At.move rfl rfl ?_
              refine At.ops0 ?_
              exact fun a ha => ⟨ha, rfl⟩
            refine At.wpcS (i := 2) (d := 49) (.int .i64 (k : Int)) (by kernel_rfl) rfl rfl rfl (fun Lx => ?_) ?_
            · skip
              refine At.move rfl rfl ?_
              refine At.ops0 ?_
              exact fun a ha => ⟨ha, rfl⟩
            refine At.wpcS (i := 3) (d := 50) ((takeV vo k)) (by kernel_rfl) rfl rfl rfl (fun Lx => ?_) ?_
            · skip
              refine At.sliceTo (h := k) rfl rfl (hso).ok el27 sz9 hle8 rfl ?_
              refine At.ops0 ?_
              exact fun a ha => ⟨ha, rfl⟩
            refine At.wpcS (i := 5) (d := 52) (u) (by kernel_rfl) rfl rfl rfl (fun Lx => ?_) ?_
            · skip
              refine At.move rfl rfl ?_
              refine At.ops0 ?_
              exact fun a ha => ⟨ha, rfl⟩
            refine At.wpcS (i := 6) (d := 53) (.int .i64 (i : Int)) (by kernel_rfl) rfl rfl rfl (fun Lx => ?_) ?_
            · skip
              refine At.move rfl rfl ?_
              refine At.ops0 ?_
              exact fun a ha => ⟨ha, rfl⟩
            refine At.wpcS (i := 7) (d := 54) (.pointer (some ⟨vBlock u, vOff u + i * 1, none⟩)) (by kernel_rfl) rfl rfl rfl (fun Lx => ?_) ?_
            · skip
              refine At.indexAddr (i := i) rfl rfl (hu).ok (lt_of_some huB) el27 sz9 rfl ?_
              refine At.ops0 ?_
              exact fun a ha => ⟨ha, rfl⟩
            refine At.wpcS (i := 8) (d := 55) (.string uB) (by kernel_rfl) rfl rfl rfl (fun Lx => ?_) ?_
            · skip
              refine At.load rfl (Ld.cell ag9 (cell_keep ((hu).get huB) hB)) rfl ?_
              refine At.ops0 ?_
              exact fun a ha => ⟨ha, rfl⟩
            refine At.wpcS (i := 11) (d := 58) (vo) (by kernel_rfl) rfl rfl rfl (fun Lx => ?_) ?_
            · skip
              refine At.move rfl rfl ?_
              refine At.ops0 ?_
              exact fun a ha => ⟨ha, rfl⟩
            refine At.wpcS (i := 12) (d := 59) (.int .i64 (k : Int)) (by kernel_rfl) rfl rfl rfl (fun Lx => ?_) ?_
            · skip
              refine At.move rfl rfl ?_
              refine At.ops0 ?_
              exact fun a ha => ⟨ha, rfl⟩
            refine At.wpcS (i := 13) (d := 60) ((dropV 1 vo k)) (by kernel_rfl) rfl rfl rfl (fun Lx => ?_) ?_
            · skip
              refine At.sliceFrom (h := k) rfl rfl (hso).ok el27 sz9 hle8 rfl ?_
              refine At.ops0 ?_
              exact fun a ha => ⟨ha, rfl⟩
            refine At.wpcE [0, 9] (by kernel_rfl) (by kernel_rfl) (.cons [1, 2, 3, 5, 6, 7, 8, 11, 12, 13] rfl (by kernel_rfl) ?_ (.cons [1, 2, 3, 11, 12, 13] rfl (by kernel_rfl) ?_ .nil))
            · skip
              refine At.buildSlice (xs := []) rfl rfl el27 sz9 ze9 (by simp) rfl (by decide) rfl (fun b24 w69 F24 => ?_)
              have gb24 := F24.ge hB
              have has50 := ApartS.fresh (n := 0) (c := 0) hso F24
              replace hso := hso.fresh F24
              have hb24 : w69.heap[b24]? = some (.cells #[] 9) := F24.new
              replace hB := F24.below' hB
              have hO50 : OwnS 9 w69 (.slice (some ⟨b24, 0, none⟩) 0 0) [] := OwnS.made (ss := []) hb24 rfl (by decide)
              have ghO50 : ∀ g, Value.ownBlock (.slice (some ⟨b24, 0, none⟩) 0 0) = some g → w.heap.size ≤ g := fun g h => by cases h; exact gb24
              clear hb24
              refine At.ops0 ?_
              refine At.wpcN (.cons rfl rfl rfl rfl (fun Lx => ?_) (.cons rfl rfl rfl rfl (fun Lx => ?_) (.cons rfl rfl rfl rfl (fun Lx => ?_) (.cons rfl rfl rfl rfl (fun Lx => ?_) (.cons rfl rfl rfl rfl (fun Lx => ?_) (.cons rfl rfl rfl rfl (fun Lx => ?_) (.cons rfl rfl rfl rfl (fun Lx => ?_) (.cons rfl rfl rfl rfl (fun Lx => ?_) (.cons rfl rfl rfl rfl (fun Lx => ?_) (.cons rfl rfl rfl rfl (fun Lx => ?_) .nil)))))))))) ?_
              · skip
                refine At.move rfl rfl ?_
                refine At.ops0 ?_
                exact fun a ha => ⟨ha, rfl⟩
              · skip
                refine At.move rfl rfl ?_
                refine At.ops0 ?_
                exact fun a ha => ⟨ha, rfl⟩
              · skip
                refine At.sliceTo (h := k) rfl rfl (hso).ok el27 sz9 hle8 rfl ?_
                refine At.ops0 ?_
                exact fun a ha => ⟨ha, rfl⟩
              · skip
                refine At.move rfl rfl ?_
                refine At.ops0 ?_
                exact fun a ha => ⟨ha, rfl⟩
              · skip
                refine At.move rfl rfl ?_
                refine At.ops0 ?_
                exact fun a ha => ⟨ha, rfl⟩
              · skip
                refine At.indexAddr (i := i) rfl rfl (hu).ok (lt_of_some huB) el27 sz9 rfl ?_
                refine At.ops0 ?_
                exact fun a ha => ⟨ha, rfl⟩
              · skip
                refine At.load rfl (Ld.cell ag9 (cell_keep ((hu).get huB) hB)) rfl ?_
                refine At.ops0 ?_
                exact fun a ha => ⟨ha, rfl⟩
              · skip
                refine At.move rfl rfl ?_
                refine At.ops0 ?_
                exact fun a ha => ⟨ha, rfl⟩
              · skip
                refine At.move rfl rfl ?_
                refine At.ops0 ?_
                exact fun a ha => ⟨ha, rfl⟩
              · skip
                refine At.sliceFrom (h := k) rfl rfl (hso).ok el27 sz9 hle8 rfl ?_
                refine At.ops0 ?_
                exact fun a ha => ⟨ha, rfl⟩
              refine At.wpcE [4, 9] (by kernel_rfl) (by kernel_rfl) (.cons [5, 6, 7, 8, 11, 12, 13] rfl (by kernel_rfl) ?_ (.cons [1, 2, 3, 11, 12, 13] rfl (by kernel_rfl) ?_ .nil))
              · skip
                refine At.appendS (ss := []) rfl rfl el27 el27 sz9 by9 ze9 rfl hO50 (((StrsAt.take hso hle8)).keep (Below.refl _ _)) (by first | omega | (simp only [List.length_append, List.length_take, List.length_drop, List.length_cons, List.length_nil]; omega)) rfl (fun va40 w70 hO51 hA40 => ?_)
                have has51 := ApartS.app has50 hA40 hso
                replace hso := AppR.strs hA40 hso has50
                have ghO51 := hA40.ge hB.size ghO50
                replace hB := hA40.below hB hB.size ghO50
                refine At.ops0 ?_
                refine At.wpcN (.cons rfl rfl rfl rfl (fun Lx => ?_) (.cons rfl rfl rfl rfl (fun Lx => ?_) (.cons rfl rfl rfl rfl (fun Lx => ?_) (.cons rfl rfl rfl rfl (fun Lx => ?_) (.cons rfl rfl rfl rfl (fun Lx => ?_) (.cons rfl rfl rfl rfl (fun Lx => ?_) (.cons rfl rfl rfl rfl (fun Lx => ?_) .nil))))))) ?_
                · skip
                  refine At.move rfl rfl ?_
                  refine At.ops0 ?_
                  exact fun a ha => ⟨ha, rfl⟩
                · skip
                  refine At.move rfl rfl ?_
                  refine At.ops0 ?_
                  exact fun a ha => ⟨ha, rfl⟩
                · skip
                  refine At.indexAddr (i := i) rfl rfl (hu).ok (lt_of_some huB) el27 sz9 rfl ?_
                  refine At.ops0 ?_
                  exact fun a ha => ⟨ha, rfl⟩
                · skip
                  refine At.load rfl (Ld.cell ag9 (cell_keep ((hu).get huB) hB)) rfl ?_
                  refine At.ops0 ?_
                  exact fun a ha => ⟨ha, rfl⟩
                · skip
                  refine At.move rfl rfl ?_
                  refine At.ops0 ?_
                  exact fun a ha => ⟨ha, rfl⟩
                · skip
                  refine At.move rfl rfl ?_
                  refine At.ops0 ?_
                  exact fun a ha => ⟨ha, rfl⟩
                · skip
                  refine At.sliceFrom (h := k) rfl rfl (hso).ok el27 sz9 hle8 rfl ?_
                  refine At.ops0 ?_
                  exact fun a ha => ⟨ha, rfl⟩
                refine At.wpcE [9] (by kernel_rfl) (by kernel_rfl) (.cons [11, 12, 13] rfl (by kernel_rfl) ?_ .nil)
                refine At.buildSlice (xs := [.tmp 55]) rfl rfl el27 sz9 ze9 (by intro v hv; simp only [List.mem_cons, List.not_mem_nil, or_false] at hv; rcases hv with rfl <;> first | rfl | simp [Value.cells, Value.cells]) rfl (by decide) rfl (fun b25 w71 F25 => ?_)
                have q_hO51_b25 : some b25 ≠ Value.ownBlock va40 := Own.neFresh hO51 F25
                have gb25 := F25.ge hB
                replace hso := hso.fresh F25
                replace hO51 := hO51.fresh F25
                have hb25 : w71.heap[b25]? = some (.cells #[.string uB] 9) := F25.new
                replace hB := F25.below' hB
                refine At.ops0 ?_
                refine At.wpcN (.cons rfl rfl rfl rfl (fun Lx => ?_) (.cons rfl rfl rfl rfl (fun Lx => ?_) (.cons rfl rfl rfl rfl (fun Lx => ?_) .nil))) ?_
                · skip
                  refine At.move rfl rfl ?_
                  refine At.ops0 ?_
                  exact fun a ha => ⟨ha, rfl⟩
                · skip
                  refine At.move rfl rfl ?_
                  refine At.ops0 ?_
                  exact fun a ha => ⟨ha, rfl⟩
                · skip
                  refine At.sliceFrom (h := k) rfl rfl (hso).ok el27 sz9 hle8 rfl ?_
                  refine At.ops0 ?_
                  exact fun a ha => ⟨ha, rfl⟩
                refine At.wpcE [10] (by kernel_rfl) (by kernel_rfl) (.cons [11, 12, 13] rfl (by kernel_rfl) ?_ .nil)
                refine At.appendS (ss := ([] ++ (lo.take k))) rfl rfl el27 el27 sz9 by9 ze9 rfl hO51 ((StrsAt.own (ss := [uB]) hb25 rfl (by decide) : StrsAt _ (.slice (some ⟨b25, 0, none⟩) 1 1) [uB])) (by first | omega | (simp only [List.length_append, List.length_take, List.length_drop, List.length_cons, List.length_nil]; omega)) rfl (fun va41 w72 hO52 hA41 => ?_)
                clear hb25
                have has52 := ApartS.app has51 hA41 hso
                replace hso := AppR.strs hA41 hso has51
                have ghO52 := hA41.ge hB.size ghO51
                replace hB := hA41.below hB hB.size ghO51
                refine At.ops0 ?_
                refine At.wpcN (.cons rfl rfl rfl rfl (fun Lx => ?_) (.cons rfl rfl rfl rfl (fun Lx => ?_) (.cons rfl rfl rfl rfl (fun Lx => ?_) .nil))) ?_
                · skip
                  refine At.move rfl rfl ?_
                  refine At.ops0 ?_
                  exact fun a ha => ⟨ha, rfl⟩
                · skip
                  refine At.move rfl rfl ?_
                  refine At.ops0 ?_
                  exact fun a ha => ⟨ha, rfl⟩
                · skip
                  refine At.sliceFrom (h := k) rfl rfl (hso).ok el27 sz9 hle8 rfl ?_
                  refine At.ops0 ?_
                  exact fun a ha => ⟨ha, rfl⟩
                refine At.wpcE [14] (by kernel_rfl) (by kernel_rfl) (.cons [] rfl (by kernel_rfl) ?_ .nil)
                refine At.appendS (ss := (([] ++ (lo.take k)) ++ [uB])) rfl rfl el27 el27 sz9 by9 ze9 rfl hO52 (((StrsAt.drop hso hle8)).keep (Below.refl _ _)) (by first | omega | (simp only [List.length_append, List.length_take, List.length_drop, List.length_cons, List.length_nil]; omega)) rfl (fun va42 w73 hO53 hA42 => ?_)
                have has53 := ApartS.app has52 hA42 hso
                replace hso := AppR.strs hA42 hso has52
                have ghO53 := hA42.ge hB.size ghO52
                replace hB := hA42.below hB hB.size ghO52
                refine At.ops0 ?_
                refine At.wpcN .nil ?_
                refine At.wpcE [15] (by kernel_rfl) (by kernel_rfl) (.cons [] rfl (by kernel_rfl) ?_ .nil)
                refine At.assign rfl rfl ?_
                refine At.ops0 ?_
                refine At.wpcN .nil ?_
                refine At.wpcZ ?_
                exact At.joinedG va42 (Sub.cons rfl (Sub.cons rfl (Sub.cons rfl Sub.nil))) ⟨hB, hO53, ghO53⟩
              · skip
                refine At.buildSlice (xs := [.tmp 55]) rfl rfl el27 sz9 ze9 (by intro v hv; simp only [List.mem_cons, List.not_mem_nil, or_false] at hv; rcases hv with rfl <;> first | rfl | simp [Value.cells, Value.cells]) rfl (by decide) rfl (fun b26 w74 F26 => ?_)
                have q_hO50_b26 : some b26 ≠ Value.ownBlock (.slice (some ⟨b24, 0, none⟩) 0 0) := Own.neFresh hO50 F26
                have gb26 := F26.ge hB
                replace hso := hso.fresh F26
                replace hO50 := hO50.fresh F26
                have hb26 : w74.heap[b26]? = some (.cells #[.string uB] 9) := F26.new
                replace hB := F26.below' hB
                refine At.ops0 ?_
                refine At.wpcN (.cons rfl rfl rfl rfl (fun Lx => ?_) (.cons rfl rfl rfl rfl (fun Lx => ?_) (.cons rfl rfl rfl rfl (fun Lx => ?_) (.cons rfl rfl rfl rfl (fun Lx => ?_) (.cons rfl rfl rfl rfl (fun Lx => ?_) (.cons rfl rfl rfl rfl (fun Lx => ?_) .nil)))))) ?_
                · skip
                  refine At.move rfl rfl ?_
                  refine At.ops0 ?_
                  exact fun a ha => ⟨ha, rfl⟩
                · skip
                  refine At.move rfl rfl ?_
                  refine At.ops0 ?_
                  exact fun a ha => ⟨ha, rfl⟩
                · skip
                  refine At.sliceTo (h := k) rfl rfl (hso).ok el27 sz9 hle8 rfl ?_
                  refine At.ops0 ?_
                  exact fun a ha => ⟨ha, rfl⟩
                · skip
                  refine At.move rfl rfl ?_
                  refine At.ops0 ?_
                  exact fun a ha => ⟨ha, rfl⟩
                · skip
                  refine At.move rfl rfl ?_
                  refine At.ops0 ?_
                  exact fun a ha => ⟨ha, rfl⟩
                · skip
                  refine At.sliceFrom (h := k) rfl rfl (hso).ok el27 sz9 hle8 rfl ?_
                  refine At.ops0 ?_
                  exact fun a ha => ⟨ha, rfl⟩
                refine At.wpcE [4] (by kernel_rfl) (by kernel_rfl) (.cons [11, 12, 13] rfl (by kernel_rfl) ?_ .nil)
                refine At.appendS (ss := []) rfl rfl el27 el27 sz9 by9 ze9 rfl hO50 (((StrsAt.take hso hle8)).keep (Below.refl _ _)) (by first | omega | (simp only [List.length_append, List.length_take, List.length_drop, List.length_cons, List.length_nil]; omega)) rfl (fun va43 w75 hO54 hA43 => ?_)
                have q_hO54_b26 : some b26 ≠ Value.ownBlock va43 := Moved.ne hA43.blk (Array.getElem?_eq_some_iff.1 hb26).1 q_hO50_b26
                replace hb26 := hA43.old hb26 q_hO50_b26
                have has54 := ApartS.app has50 hA43 hso
                replace hso := AppR.strs hA43 hso has50
                have ghO54 := hA43.ge hB.size ghO50
                replace hB := hA43.below hB hB.size ghO50
                refine At.ops0 ?_
                refine At.wpcN (.cons rfl rfl rfl rfl (fun Lx => ?_) (.cons rfl rfl rfl rfl (fun Lx => ?_) (.cons rfl rfl rfl rfl (fun Lx => ?_) .nil))) ?_
                · skip
                  refine At.move rfl rfl ?_
                  refine At.ops0 ?_
                  exact fun a ha => ⟨ha, rfl⟩
                · skip
                  refine At.move rfl rfl ?_
                  refine At.ops0 ?_
                  exact fun a ha => ⟨ha, rfl⟩
                · skip
                  refine At.sliceFrom (h := k) rfl rfl (hso).ok el27 sz9 hle8 rfl ?_
                  refine At.ops0 ?_
                  exact fun a ha => ⟨ha, rfl⟩
                refine At.wpcE [10] (by kernel_rfl) (by kernel_rfl) (.cons [11, 12, 13] rfl (by kernel_rfl) ?_ .nil)
                refine At.appendS (ss := ([] ++ (lo.take k))) rfl rfl el27 el27 sz9 by9 ze9 rfl hO54 ((StrsAt.own (ss := [uB]) hb26 rfl (by decide) : StrsAt _ (.slice (some ⟨b26, 0, none⟩) 1 1) [uB])) (by first | omega | (simp only [List.length_append, List.length_take, List.length_drop, List.length_cons, List.length_nil]; omega)) rfl (fun va44 w76 hO55 hA44 => ?_)
                clear hb26
                have has55 := ApartS.app has54 hA44 hso
                replace hso := AppR.strs hA44 hso has54
                have ghO55 := hA44.ge hB.size ghO54
                replace hB := hA44.below hB hB.size ghO54
                refine At.ops0 ?_
                refine At.wpcN (.cons rfl rfl rfl rfl (fun Lx => ?_) (.cons rfl rfl rfl rfl (fun Lx => ?_) (.cons rfl rfl rfl rfl (fun Lx => ?_) .nil))) ?_
                · skip
                  refine At.move rfl rfl ?_
                  refine At.ops0 ?_
                  exact fun a ha => ⟨ha, rfl⟩
                · skip
                  refine At.move rfl rfl ?_
                  refine At.ops0 ?_
                  exact fun a ha => ⟨ha, rfl⟩
                · skip
                  refine At.sliceFrom (h := k) rfl rfl (hso).ok el27 sz9 hle8 rfl ?_
                  refine At.ops0 ?_
                  exact fun a ha => ⟨ha, rfl⟩
                refine At.wpcE [14] (by kernel_rfl) (by kernel_rfl) (.cons [] rfl (by kernel_rfl) ?_ .nil)
                refine At.appendS (ss := (([] ++ (lo.take k)) ++ [uB])) rfl rfl el27 el27 sz9 by9 ze9 rfl hO55 (((StrsAt.drop hso hle8)).keep (Below.refl _ _)) (by first | omega | (simp only [List.length_append, List.length_take, List.length_drop, List.length_cons, List.length_nil]; omega)) rfl (fun va45 w77 hO56 hA45 => ?_)
                have has56 := ApartS.app has55 hA45 hso
                replace hso := AppR.strs hA45 hso has55
                have ghO56 := hA45.ge hB.size ghO55
                replace hB := hA45.below hB hB.size ghO55
                refine At.ops0 ?_
                refine At.wpcN .nil ?_
                refine At.wpcE [15] (by kernel_rfl) (by kernel_rfl) (.cons [] rfl (by kernel_rfl) ?_ .nil)
                refine At.assign rfl rfl ?_
                refine At.ops0 ?_
                refine At.wpcN .nil ?_
                refine At.wpcZ ?_
                exact At.joinedG va45 (Sub.cons rfl (Sub.cons rfl (Sub.cons rfl Sub.nil))) ⟨hB, hO56, ghO56⟩
            · skip
              refine At.buildSlice (xs := [.tmp 55]) rfl rfl el27 sz9 ze9 (by intro v hv; simp only [List.mem_cons, List.not_mem_nil, or_false] at hv; rcases hv with rfl <;> first | rfl | simp [Value.cells, Value.cells]) rfl (by decide) rfl (fun b27 w78 F27 => ?_)
              have gb27 := F27.ge hB
              replace hso := hso.fresh F27
              have hb27 : w78.heap[b27]? = some (.cells #[.string uB] 9) := F27.new
              replace hB := F27.below' hB
              refine At.ops0 ?_
              refine At.wpcN (.cons rfl rfl rfl rfl (fun Lx => ?_) (.cons rfl rfl rfl rfl (fun Lx => ?_) (.cons rfl rfl rfl rfl (fun Lx => ?_) (.cons rfl rfl rfl rfl (fun Lx => ?_) (.cons rfl rfl rfl rfl (fun Lx => ?_) (.cons rfl rfl rfl rfl (fun Lx => ?_) .nil)))))) ?_
              · skip
                refine At.move rfl rfl ?_
                refine At.ops0 ?_
                exact fun a ha => ⟨ha, rfl⟩
              · skip
                refine At.move rfl rfl ?_
                refine At.ops0 ?_
                exact fun a ha => ⟨ha, rfl⟩
              · skip
                refine At.sliceTo (h := k) rfl rfl (hso).ok el27 sz9 hle8 rfl ?_
                refine At.ops0 ?_
                exact fun a ha => ⟨ha, rfl⟩
              · skip
                refine At.move rfl rfl ?_
                refine At.ops0 ?_
                exact fun a ha => ⟨ha, rfl⟩
              · skip
                refine At.move rfl rfl ?_
                refine At.ops0 ?_
                exact fun a ha => ⟨ha, rfl⟩
              · skip
                refine At.sliceFrom (h := k) rfl rfl (hso).ok el27 sz9 hle8 rfl ?_
                refine At.ops0 ?_
                exact fun a ha => ⟨ha, rfl⟩
              refine At.wpcE [0] (by kernel_rfl) (by kernel_rfl) (.cons [1, 2, 3, 11, 12, 13] rfl (by kernel_rfl) ?_ .nil)
              refine At.buildSlice (xs := []) rfl rfl el27 sz9 ze9 (by simp) rfl (by decide) rfl (fun b28 w79 F28 => ?_)
              have n_b27_b28 : b27 ≠ b28 := Nat.ne_of_lt (F28.lt hb27)
              have gb28 := F28.ge hB
              replace hb27 := F28.old hb27
              have has57 := ApartS.fresh (n := 0) (c := 0) hso F28
              replace hso := hso.fresh F28
              have hb28 : w79.heap[b28]? = some (.cells #[] 9) := F28.new
              replace hB := F28.below' hB
              have hO57 : OwnS 9 w79 (.slice (some ⟨b28, 0, none⟩) 0 0) [] := OwnS.made (ss := []) hb28 rfl (by decide)
              have ghO57 : ∀ g, Value.ownBlock (.slice (some ⟨b28, 0, none⟩) 0 0) = some g → w.heap.size ≤ g := fun g h => by cases h; exact gb28
              have qhO57_b27 : some b27 ≠ Value.ownBlock (.slice (some ⟨b28, 0, none⟩) 0 0) := fun e => n_b27_b28 (Option.some.inj e)
              clear hb28
              refine At.ops0 ?_
              refine At.wpcN (.cons rfl rfl rfl rfl (fun Lx => ?_) (.cons rfl rfl rfl rfl (fun Lx => ?_) (.cons rfl rfl rfl rfl (fun Lx => ?_) (.cons rfl rfl rfl rfl (fun Lx => ?_) (.cons rfl rfl rfl rfl (fun Lx => ?_) (.cons rfl rfl rfl rfl (fun Lx => ?_) .nil)))))) ?_
              · skip
                refine At.move rfl rfl ?_
                refine At.ops0 ?_
                exact fun a ha => ⟨ha, rfl⟩
              · skip
                refine At.move rfl rfl ?_
                refine At.ops0 ?_
                exact fun a ha => ⟨ha, rfl⟩
              · skip
                refine At.sliceTo (h := k) rfl rfl (hso).ok el27 sz9 hle8 rfl ?_
                refine At.ops0 ?_
                exact fun a ha => ⟨ha, rfl⟩
              · skip
                refine At.move rfl rfl ?_
                refine At.ops0 ?_
                exact fun a ha => ⟨ha, rfl⟩
              · skip
                refine At.move rfl rfl ?_
                refine At.ops0 ?_
                exact fun a ha => ⟨ha, rfl⟩
              · skip
                refine At.sliceFrom (h := k) rfl rfl (hso).ok el27 sz9 hle8 rfl ?_
                refine At.ops0 ?_
                exact fun a ha => ⟨ha, rfl⟩
              refine At.wpcE [4] (by kernel_rfl) (by kernel_rfl) (.cons [11, 12, 13] rfl (by kernel_rfl) ?_ .nil)
              refine At.appendS (ss := []) rfl rfl el27 el27 sz9 by9 ze9 rfl hO57 (((StrsAt.take hso hle8)).keep (Below.refl _ _)) (by first | omega | (simp only [List.length_append, List.length_take, List.length_drop, List.length_cons, List.length_nil]; omega)) rfl (fun va46 w80 hO58 hA46 => ?_)
              have q_hO58_b27 : some b27 ≠ Value.ownBlock va46 := Moved.ne hA46.blk (Array.getElem?_eq_some_iff.1 hb27).1 qhO57_b27
              replace hb27 := hA46.old hb27 qhO57_b27
              have has58 := ApartS.app has57 hA46 hso
              replace hso := AppR.strs hA46 hso has57
              have ghO58 := hA46.ge hB.size ghO57
              replace hB := hA46.below hB hB.size ghO57
              refine At.ops0 ?_
              refine At.wpcN (.cons rfl rfl rfl rfl (fun Lx => ?_) (.cons rfl rfl rfl rfl (fun Lx => ?_) (.cons rfl rfl rfl rfl (fun Lx => ?_) .nil))) ?_
              · skip
                refine At.move rfl rfl ?_
                refine At.ops0 ?_
                exact fun a ha => ⟨ha, rfl⟩
              · skip
                refine At.move rfl rfl ?_
                refine At.ops0 ?_
                exact fun a ha => ⟨ha, rfl⟩
              · skip
                refine At.sliceFrom (h := k) rfl rfl (hso).ok el27 sz9 hle8 rfl ?_
                refine At.ops0 ?_
                exact fun a ha => ⟨ha, rfl⟩
              refine At.wpcE [10] (by kernel_rfl) (by kernel_rfl) (.cons [11, 12, 13] rfl (by kernel_rfl) ?_ .nil)
              refine At.appendS (ss := ([] ++ (lo.take k))) rfl rfl el27 el27 sz9 by9 ze9 rfl hO58 ((StrsAt.own (ss := [uB]) hb27 rfl (by decide) : StrsAt _ (.slice (some ⟨b27, 0, none⟩) 1 1) [uB])) (by first | omega | (simp only [List.length_append, List.length_take, List.length_drop, List.length_cons, List.length_nil]; omega)) rfl (fun va47 w81 hO59 hA47 => ?_)
              clear hb27
              have has59 := ApartS.app has58 hA47 hso
              replace hso := AppR.strs hA47 hso has58
              have ghO59 := hA47.ge hB.size ghO58
              replace hB := hA47.below hB hB.size ghO58
              refine At.ops0 ?_
              refine At.wpcN (.cons rfl rfl rfl rfl (fun Lx => ?_) (.cons rfl rfl rfl rfl (fun Lx => ?_) (.cons rfl rfl rfl rfl (fun Lx => ?_) .nil))) ?_
              · skip
                refine At.move rfl rfl ?_
                refine At.ops0 ?_
                exact fun a ha => ⟨ha, rfl⟩
              · skip
                refine At.move rfl rfl ?_
                refine At.ops0 ?_
                exact fun a ha => ⟨ha, rfl⟩
              · skip
                refine At.sliceFrom (h := k) rfl rfl (hso).ok el27 sz9 hle8 rfl ?_
                refine At.ops0 ?_
                exact fun a ha => ⟨ha, rfl⟩
              refine At.wpcE [14] (by kernel_rfl) (by kernel_rfl) (.cons [] rfl (by kernel_rfl) ?_ .nil)
              refine At.appendS (ss := (([] ++ (lo.take k)) ++ [uB])) rfl rfl el27 el27 sz9 by9 ze9 rfl hO59 (((StrsAt.drop hso hle8)).keep (Below.refl _ _)) (by first | omega | (simp only [List.length_append, List.length_take, List.length_drop, List.length_cons, List.length_nil]; omega)) rfl (fun va48 w82 hO60 hA48 => ?_)
              have has60 := ApartS.app has59 hA48 hso
              replace hso := AppR.strs hA48 hso has59
              have ghO60 := hA48.ge hB.size ghO59
              replace hB := hA48.below hB hB.size ghO59
              refine At.ops0 ?_
              refine At.wpcN .nil ?_
              refine At.wpcE [15] (by kernel_rfl) (by kernel_rfl) (.cons [] rfl (by kernel_rfl) ?_ .nil)
              refine At.assign rfl rfl ?_
              refine At.ops0 ?_
              refine At.wpcN .nil ?_
              refine At.wpcZ ?_
              exact At.joinedG va48 (Sub.cons rfl (Sub.cons rfl (Sub.cons rfl Sub.nil))) ⟨hB, hO60, ghO60⟩
          · skip
            clear hB hso
            obtain ⟨hB, hO49, ghO49⟩ := hS
            show At _ _ [(1, u), (5, va39), (6, .int .i64 (i : Int))] _ _
            refine At.inN ?_
            refine At.thenN ?_
            refine At.region ?_
            refine At.move rfl rfl ?_
            refine At.addI rfl rfl rfl (by first | omega | (simp only [List.length_append, List.length_take, List.length_drop, List.length_cons, List.length_nil]; omega)) ?_
            refine At.assign rfl rfl ?_
            refine At.ops0 ?_
            refine At.thenN ?_
            exact fun a ha => ⟨((i + 1), va39, ((([] ++ (lo.take k)) ++ [uB]) ++ (lo.drop k))), ha.sub (Sub.cons rfl (Sub.cons rfl (Sub.cons rfl Sub.nil))), ⟨hB, (hO49).strs, (by omega), (by simp only [List.length_append, List.length_take, List.length_drop, List.length_cons, List.length_nil]; omega), (fun x => by rw [memB_ins, hmem, memB_take huB, Bool.or_assoc])⟩, by first | omega | (dsimp only; omega)⟩
        · skip
          have hc4' := hc4; simp only [Bool.not_eq_true', Bool.not_eq_false', decide_eq_true_eq, decide_eq_false_iff_not] at hc4'
          refine At.skip ?_
          refine At.inN ?_
          refine At.thenN ?_
          refine At.region ?_
          refine At.move rfl rfl ?_
          refine At.addI rfl rfl rfl (by first | omega | (simp only [List.length_append, List.length_take, List.length_drop, List.length_cons, List.length_nil]; omega)) ?_
          refine At.assign rfl rfl ?_
          refine At.ops0 ?_
          refine At.thenN ?_
          exact fun a ha => ⟨((i + 1), vo, lo), ha.sub (Sub.cons rfl (Sub.cons rfl (Sub.cons rfl Sub.nil))), ⟨hB, hso, (by omega), (by omega), (fun x => by have hq := memB_get (x := x) hu2; rw [show u2 = uB by simpa using hc4', hmem, Bool.or_assoc, ← memB_take huB] at hq; rw [hmem, hq])⟩, by first | omega | (dsimp only; omega)⟩
  · skip
    have hc1' := of_decide_eq_false hc1
    refine At.exit ?_
    refine At.thenE ?_
    refine At.thenE ?_
    refine At.inE ?_
    refine At.thenN ?_
    refine At.seq ?_
    refine At.region ?_
    refine At.move rfl rfl ?_
    refine At.assign rfl rfl ?_
    refine At.ops0 ?_
    refine At.thenN ?_
    refine At.retc ?_
    refine At.doneR (ResV.tmp rfl ResV.nil) ?_
    have hfull : lb.take i = lb := List.take_of_length_le (by omega)
    rw [hfull] at hmem
    exact ⟨vo, lo, rfl, hB, hso, hmem, by omega⟩
theorem names_step (t : Tm) (w : World) (ht : TmOk w t) (hwl : wtT t ≤ 1099511627776) (ih : ∀ (u : Tm), wtT u < wtT t → ∀ (w : World), TmOk w u → wtT u ≤ 1099511627776 → Calls Try.prog 37 ([.agg u.cs] : List Value).toArray w fun e w' => ∃ v' l', e = .returned v' ∧ Below w.heap.size w w' ∧ StrsAt w' v' l' ∧ (∀ x, memB x l' = varIn x u) ∧ l'.length ≤ wtT u) :
    Calls Try.prog 37 ([.agg t.cs] : List Value).toArray w fun e w' => ∃ v' l', e = .returned v' ∧ Below w.heap.size w w' ∧ StrsAt w' v' l' ∧ (∀ x, memB x l' = varIn x t) ∧ l'.length ≤ wtT t := by
  have hkl := ht.kidsAt.lenL
  have hal := ht.armsAt.lenL
  have hB := Below.refl w.heap.size w
  refine At.enter (N := 44) Try.func37 rfl rfl (by simp) [(0, .agg t.cs)] (by simp) ?_
  refine At.seq ?_
  refine At.region ?_
  refine At.box rfl rfl (fun b1 w1 F1 => ?_)
  have gb1 := F1.ge hB
  have hb1 : w1.heap[b1]? = some (.cells t.cs 33) := F1.new
  replace hB := F1.below' hB
  refine At.assign rfl rfl ?_
  refine At.ops0 ?_
  refine At.thenN ?_
  refine At.seq ?_
  refine At.seq ?_
  refine At.region ?_
  refine At.fieldAddr rfl fo33_0 rfl ?_
  refine At.load rfl (Ld.ownCell ag3 hb1 (ht).c0) rfl ?_
  refine At.eqI rfl rfl rfl ?_
  refine At.ops0 ?_
  refine At.thenN ?_
  refine At.cond (b := decide (t.k = 1)) rfl (fun hc1 => ?_) (fun hc1 => ?_)
  · skip
    have hc1' := of_decide_eq_true hc1
    refine At.seq ?_
    refine At.region ?_
    refine At.fieldAddr rfl fo33_2 rfl ?_
    refine At.load rfl (Ld.ownCell ag9 hb1 (ht).c2) rfl ?_
    refine At.buildSlice (xs := [.tmp 10]) rfl rfl el27 sz9 ze9 (by intro v hv; simp only [List.mem_cons, List.not_mem_nil, or_false] at hv; rcases hv with rfl <;> first | rfl | simp [Value.cells, Value.cells]) rfl (by decide) rfl (fun b2 w2 F2 => ?_)
    have n_b1_b2 : b1 ≠ b2 := Nat.ne_of_lt (F2.lt hb1)
    have gb2 := F2.ge hB
    replace hb1 := F2.old hb1
    have hb2 : w2.heap[b2]? = some (.cells #[.string t.nm] 9) := F2.new
    replace hB := F2.below' hB
    refine At.assign rfl rfl ?_
    refine At.ops0 ?_
    refine At.thenN ?_
    refine At.retc ?_
    refine At.thenR ?_
    refine At.doneR (ResV.tmp rfl ResV.nil) ?_
    exact ⟨_, _, rfl, hB, (StrsAt.own (ss := [t.nm]) hb2 rfl (by decide) : StrsAt _ (.slice (some ⟨b2, 0, none⟩) 1 1) [t.nm]), fun x => by rw [varIn_eq, hc1]; simp [memB], by have := wtT_two t; simp only [List.length_cons, List.length_nil]; omega⟩
  · skip
    have hc1' := of_decide_eq_false hc1
    refine At.skip ?_
    refine At.thenN ?_
    refine At.seq ?_
    refine At.region ?_
    refine At.assign rfl rfl ?_
    refine At.ops0 ?_
    refine At.thenN ?_
    refine At.seq ?_
    refine At.seq ?_
    refine At.region ?_
    refine At.assign rfl rfl ?_
    refine At.ops0 ?_
    refine At.thenN ?_
    refine At.block ?_
    refine At.loop (Nat × Value × List ByteArray) (fun (k, vo, lo) => [(1, .pointer (some ⟨b1, 0, none⟩)), (3, vo), (4, .int .i64 (k : Int))]) (fun (k, vo, lo) w3 => Below w.heap.size w w3 ∧ w3.heap[b1]? = some (.cells t.cs 33) ∧ StrsAt w3 vo lo ∧ (k ≤ t.kids.length) ∧ (lo.length ≤ wtL (t.kids.take k)) ∧ (∀ x, memB x lo = varL x (t.kids.take k))) (fun (k, vo, lo) => t.kids.length - k) (0, .slice none 0 0, []) (Sub.cons rfl (Sub.cons rfl (Sub.cons rfl Sub.nil))) ⟨hB, hb1, StrsAt.nil _, (Nat.zero_le _), (Nat.zero_le _), (fun x => rfl)⟩ (fun gh w3 hI => ?_)
    obtain ⟨k, vo, lo⟩ := gh
    clear hB hb1
    obtain ⟨hB, hb1, hso, hkb, hlen, hmem⟩ := hI
    show At _ _ [(1, .pointer (some ⟨b1, 0, none⟩)), (3, vo), (4, .int .i64 (k : Int))] _ _
    refine At.seq ?_
    refine At.seq ?_
    refine At.region ?_
    refine At.move rfl rfl ?_
    refine At.fieldAddr rfl fo33_5 rfl ?_
    refine At.load rfl (Ld.ownCell ag24 hb1 (ht).c5) rfl ?_
    refine At.lenSl rfl ((ht).kidsAt).okL el24 rfl ?_
    refine At.lss rfl rfl rfl ?_
    refine At.ops0 ?_
    refine At.thenN ?_
    refine At.cond (b := decide ((k : Int) < (t.kids.length : Int))) rfl (fun hc2 => ?_) (fun hc2 => ?_)
    · skip
      have hc2' := of_decide_eq_true hc2
      refine At.skip ?_
      refine At.thenN ?_
      refine At.seq ?_
      refine At.block ?_
      obtain ⟨u1, hu1⟩ := some_of_lt (l := t.kids) (i := k) (by omega)
      have hwk := wt_kid (List.mem_of_getElem? hu1)
      have hwt := wtL_take t.kids (k + 1)
      rw [take_succ_snoc hu1, wtL_snoc] at hwt
      have hwe := wtT_eq t
      refine At.region ?_
      refine At.move rfl rfl ?_
      refine At.fieldAddr rfl fo33_5 rfl ?_
      refine At.load rfl (Ld.ownCell ag24 hb1 (ht).c5) rfl ?_
      refine At.move rfl rfl ?_
      refine At.indexAddr (i := k) rfl rfl ((ht).kidsAt).okL (lt_of_some hu1) el24 sz33 rfl ?_
      refine At.load rfl (Ld.row ag33 (sz33.trans (congrArg some (((ht).kid hu1)).size.symm)) ((((ht).kidsAt).row hu1).keep hB)) rfl ?_
      refine At.call en37 rfl rfl (ih u1 (by have := wt_kid (List.mem_of_getElem? hu1); omega) _ ((((ht).kid hu1)).keep hB) (by omega)) (fun e w4 hR => ?_)
      obtain ⟨vs1, ls1, rfl, hbl1, hst1, hNm1, hNl1⟩ := hR
      refine ⟨_, rfl, ?_⟩
      replace hb1 := Below.old hbl1 hb1
      replace hso := hso.below hbl1
      replace hB := Below.andThen hB hbl1
      refine At.call en49 rfl rfl (join_any vo vs1 lo ls1 _ ((hso).keep (Below.refl _ _)) ((hst1).keep (Below.refl _ _)) (by omega)) (fun e w5 hR => ?_)
      obtain ⟨vs2, ls2, rfl, hbl2, hst2, hJm1, hJl1⟩ := hR
      refine ⟨_, rfl, ?_⟩
      replace hb1 := Below.old hbl2 hb1
      replace hso := hso.below hbl2
      replace hst1 := hst1.below hbl2
      replace hB := Below.andThen hB hbl2
      refine At.assign rfl rfl ?_
      refine At.ops0 ?_
      refine At.inN ?_
      refine At.thenN ?_
      refine At.region ?_
      refine At.move rfl rfl ?_
      refine At.addI rfl rfl rfl (by omega) ?_
      refine At.assign rfl rfl ?_
      refine At.ops0 ?_
      refine At.thenN ?_
      exact fun a ha => ⟨((k + 1), vs2, ls2), ha.sub (Sub.cons rfl (Sub.cons rfl (Sub.cons rfl Sub.nil))), ⟨hB, hb1, hst2, (by omega), (by rw [take_succ_snoc hu1, wtL_snoc]; omega), (fun x => by rw [hJm1, hmem, hNm1, take_succ_snoc hu1, varL_snoc])⟩, by first | omega | (dsimp only; omega)⟩
    · skip
      have hc2' := of_decide_eq_false hc2
      refine At.exit ?_
      refine At.thenE ?_
      refine At.thenE ?_
      refine At.inE ?_
      refine At.thenN ?_
      refine At.seq ?_
      refine At.seq ?_
      refine At.region ?_
      refine At.assign rfl rfl ?_
      refine At.ops0 ?_
      refine At.thenN ?_
      refine At.block ?_
      have hfull : t.kids.take k = t.kids := List.take_of_length_le (by omega)
      rw [hfull] at hmem hlen
      refine At.loop (Nat × Value × List ByteArray) (fun (j, vp, lp) => [(1, .pointer (some ⟨b1, 0, none⟩)), (3, vp), (5, .int .i64 (j : Int))]) (fun (j, vp, lp) w6 => Below w.heap.size w w6 ∧ w6.heap[b1]? = some (.cells t.cs 33) ∧ StrsAt w6 vp lp ∧ (j ≤ t.arms.length) ∧ (lp.length ≤ wtL t.kids + wtA (t.arms.take j)) ∧ (∀ x, memB x lp = (varL x t.kids || varA x (t.arms.take j)))) (fun (j, vp, lp) => t.arms.length - j) (0, vo, lo) (Sub.cons rfl (Sub.cons rfl (Sub.cons rfl Sub.nil))) ⟨hB, hb1, hso, (Nat.zero_le _), (by simp only [List.take_zero, wtA]; omega), (fun x => by rw [hmem]; simp [varA])⟩ (fun gh w6 hI => ?_)
      obtain ⟨j, vp, lp⟩ := gh
      clear hB hb1 hso
      obtain ⟨hB, hb1, hsp, hjb, hlen2, hmem2⟩ := hI
      show At _ _ [(1, .pointer (some ⟨b1, 0, none⟩)), (3, vp), (5, .int .i64 (j : Int))] _ _
      refine At.seq ?_
      refine At.seq ?_
      refine At.region ?_
      refine At.move rfl rfl ?_
      refine At.fieldAddr rfl fo33_6 rfl ?_
      refine At.load rfl (Ld.ownCell ag25 hb1 (ht).c6) rfl ?_
      refine At.lenSl rfl ((ht).armsAt).okL el25 rfl ?_
      refine At.lss rfl rfl rfl ?_
      refine At.ops0 ?_
      refine At.thenN ?_
      refine At.cond (b := decide ((j : Int) < (t.arms.length : Int))) rfl (fun hc3 => ?_) (fun hc3 => ?_)
      · skip
        have hc3' := of_decide_eq_true hc3
        refine At.skip ?_
        refine At.thenN ?_
        refine At.seq ?_
        refine At.block ?_
        obtain ⟨u2, hu2⟩ := some_of_lt (l := t.arms) (i := j) (by omega)
        have hwk := wt_arm (List.mem_of_getElem? hu2)
        have hwt := wtA_take t.arms (j + 1)
        rw [take_succ_snoc hu2, wtA_snoc] at hwt
        have hwe := wtT_eq t
        refine At.region ?_
        refine At.move rfl rfl ?_
        refine At.fieldAddr rfl fo33_6 rfl ?_
        refine At.load rfl (Ld.ownCell ag25 hb1 (ht).c6) rfl ?_
        refine At.move rfl rfl ?_
        refine At.indexAddr (i := j) rfl rfl ((ht).armsAt).okL (lt_of_some hu2) el25 sz71 rfl ?_
        refine At.fieldAddr rfl fo71_2 rfl ?_
        refine At.load rfl (Ld.row ag33 (sz33.trans (congrArg some ((((ht).arm hu2)).body).size.symm)) (((((ht).armsAt).row hu2).part 2 (((ht).arm hu2)).bodyCs).keep hB)) rfl ?_
        refine At.call en37 rfl rfl (ih u2.body (by have := wt_arm (List.mem_of_getElem? hu2); omega) _ (((((ht).arm hu2)).body).keep hB) (by omega)) (fun e w7 hR => ?_)
        obtain ⟨vs3, ls3, rfl, hbl3, hst3, hNm2, hNl2⟩ := hR
        refine ⟨_, rfl, ?_⟩
        replace hb1 := Below.old hbl3 hb1
        replace hsp := hsp.below hbl3
        replace hB := Below.andThen hB hbl3
        refine At.call en49 rfl rfl (join_any vp vs3 lp ls3 _ ((hsp).keep (Below.refl _ _)) ((hst3).keep (Below.refl _ _)) (by omega)) (fun e w8 hR => ?_)
        obtain ⟨vs4, ls4, rfl, hbl4, hst4, hJm2, hJl2⟩ := hR
        refine ⟨_, rfl, ?_⟩
        replace hb1 := Below.old hbl4 hb1
        replace hsp := hsp.below hbl4
        replace hst3 := hst3.below hbl4
        replace hB := Below.andThen hB hbl4
        refine At.assign rfl rfl ?_
        refine At.ops0 ?_
        refine At.inN ?_
        refine At.thenN ?_
        refine At.region ?_
        refine At.move rfl rfl ?_
        refine At.addI rfl rfl rfl (by omega) ?_
        refine At.assign rfl rfl ?_
        refine At.ops0 ?_
        refine At.thenN ?_
        exact fun a ha => ⟨((j + 1), vs4, ls4), ha.sub (Sub.cons rfl (Sub.cons rfl (Sub.cons rfl Sub.nil))), ⟨hB, hb1, hst4, (by omega), (by rw [take_succ_snoc hu2, wtA_snoc]; omega), (fun x => by rw [hJm2, hmem2, hNm2, take_succ_snoc hu2, varA_snoc, Bool.or_assoc])⟩, by first | omega | (dsimp only; omega)⟩
      · skip
        have hc3' := of_decide_eq_false hc3
        refine At.exit ?_
        refine At.thenE ?_
        refine At.thenE ?_
        refine At.inE ?_
        refine At.thenN ?_
        refine At.seq ?_
        refine At.region ?_
        refine At.move rfl rfl ?_
        refine At.assign rfl rfl ?_
        refine At.ops0 ?_
        refine At.thenN ?_
        refine At.retc ?_
        refine At.doneR (ResV.tmp rfl ResV.nil) ?_
        have hfull2 : t.arms.take j = t.arms := List.take_of_length_le (by omega)
        rw [hfull2] at hmem2 hlen2
        have hwe := wtT_eq t
        exact ⟨vp, lp, rfl, hB, hsp, fun x => by rw [hmem2, varIn_eq, hc1]; rfl, by omega⟩
theorem names_any (t : Tm) (w : World) (ht : TmOk w t) (hwl : wtT t ≤ 1099511627776) : Calls Try.prog 37 ([.agg t.cs] : List Value).toArray w fun e w' => ∃ v' l', e = .returned v' ∧ Below w.heap.size w w' ∧ StrsAt w' v' l' ∧ (∀ x, memB x l' = varIn x t) ∧ l'.length ≤ wtT t := by
  have key : ∀ (n : Nat) (t : Tm), wtT t = n → ∀ (w : World), TmOk w t → wtT t ≤ 1099511627776 → Calls Try.prog 37 ([.agg t.cs] : List Value).toArray w fun e w' => ∃ v' l', e = .returned v' ∧ Below w.heap.size w w' ∧ StrsAt w' v' l' ∧ (∀ x, memB x l' = varIn x t) ∧ l'.length ≤ wtT t := by
    intro n
    induction n using Nat.strongRecOn with
    | _ n ih => intro t hn w h hl; exact names_step t w h hl (fun u hu => ih (wtT u) (hn ▸ hu) u rfl)
  exact key _ t rfl w ht hwl
theorem free_any (t : Tm) (w : World) (ht : TmOk w t) (hwl : wtT t ≤ 1099511627776) :
    Calls Try.prog 22 ([.agg t.cs] : List Value).toArray w fun e w' => ∃ v' l', e = .returned v' ∧ Below w.heap.size w w' ∧ StrsAt w' v' l' ∧ (l' = [] ↔ ∀ x, varIn x t = true → ¬ 0 < usesS x t) := by
  have hB := Below.refl w.heap.size w
  refine At.enter (N := 29) Try.func22 rfl rfl (by simp) [(0, .agg t.cs)] (by simp) ?_
  refine At.seq ?_
  refine At.region ?_
  refine At.box rfl rfl (fun b1 w1 F1 => ?_)
  have gb1 := F1.ge hB
  have hb1 : w1.heap[b1]? = some (.cells t.cs 33) := F1.new
  replace hB := F1.below' hB
  refine At.assign rfl rfl ?_
  refine At.ops0 ?_
  refine At.thenN ?_
  refine At.seq ?_
  refine At.region ?_
  refine At.assign rfl rfl ?_
  refine At.ops0 ?_
  refine At.thenN ?_
  refine At.seq ?_
  refine At.region ?_
  refine At.load rfl (Ld.own ag33 (sz33.trans (congrArg some (ht).size.symm)) hb1) rfl ?_
  refine At.call en37 rfl rfl (names_any t _ ((ht).keep hB) hwl) (fun e w2 hR => ?_)
  obtain ⟨vs1, ls1, rfl, hbl1, hst1, hNm1, hNl1⟩ := hR
  refine ⟨_, rfl, ?_⟩
  replace hb1 := Below.old hbl1 hb1
  replace hB := Below.andThen hB hbl1
  refine At.assign rfl rfl ?_
  refine At.ops0 ?_
  refine At.thenN ?_
  refine At.seq ?_
  refine At.seq ?_
  refine At.region ?_
  refine At.assign rfl rfl ?_
  refine At.ops0 ?_
  refine At.thenN ?_
  refine At.block ?_
  refine At.loop (Nat × Value × List ByteArray) (fun (k, vo, lo) => [(1, .pointer (some ⟨b1, 0, none⟩)), (3, vo), (4, vs1), (5, .int .i64 (k : Int))]) (fun (k, vo, lo) w3 => Below w.heap.size w w3 ∧ w3.heap[b1]? = some (.cells t.cs 33) ∧ StrsAt w3 vs1 ls1 ∧ OwnS 9 w3 vo lo ∧ (∀ g, vo.ownBlock = some g → w.heap.size ≤ g) ∧ (ApartS vs1 ls1 vo) ∧ (k ≤ ls1.length) ∧ (lo.length ≤ k) ∧ (lo = [] ↔ ∀ x ∈ ls1.take k, ¬ 0 < usesS x t)) (fun (k, vo, lo) => ls1.length - k) (0, .slice none 0 0, []) (Sub.cons rfl (Sub.cons rfl (Sub.cons rfl (Sub.cons rfl Sub.nil)))) ⟨hB, hb1, hst1, OwnS.nil _ _, (fun g h => by cases h), (ApartS.nil), (Nat.zero_le _), (Nat.le_refl _), (by simp)⟩ (fun gh w3 hI => ?_)
  obtain ⟨k, vo, lo⟩ := gh
  clear hB hb1 hst1
  obtain ⟨hB, hb1, hst1, hro, gO, hap, hkb, hlen, hiff⟩ := hI
  show At _ _ [(1, .pointer (some ⟨b1, 0, none⟩)), (3, vo), (4, vs1), (5, .int .i64 (k : Int))] _ _
  refine At.seq ?_
  refine At.seq ?_
  refine At.region ?_
  refine At.move rfl rfl ?_
  refine At.move rfl rfl ?_
  refine At.lenSl rfl (hst1).ok el27 rfl ?_
  refine At.lss rfl rfl rfl ?_
  refine At.ops0 ?_
  refine At.thenN ?_
  refine At.cond (b := decide ((k : Int) < (ls1.length : Int))) rfl (fun hc1 => ?_) (fun hc1 => ?_)
  · skip
    have hc1' := of_decide_eq_true hc1
    refine At.skip ?_
    refine At.thenN ?_
    refine At.seq ?_
    refine At.block ?_
    refine At.seq ?_
    refine At.drawG (n := 7) mixed (by kernel_rfl) rfl (PanicOk.then (PanicOk.block (PanicOk.then (PanicOk.then (PanicOk.block (PanicOk.then PanicOk.body)))))) ?_
    have hB := Below.drewB hB
    have hb1 : _ := (show w3.drew.heap[b1]? = _ from hb1)
    have hst1 := hst1.drew
    have hro := hro.drew
    refine At.wpcS (i := 0) (d := 14) (.agg t.cs) (by kernel_rfl) rfl rfl rfl (fun Lx => ?_) ?_
    · skip
      refine At.load rfl (Ld.own ag33 (sz33.trans (congrArg some (ht).size.symm)) hb1) rfl ?_
      refine At.ops0 ?_
      exact fun a ha => ⟨ha, rfl⟩
    refine At.wpcS (i := 1) (d := 15) (vs1) (by kernel_rfl) rfl rfl rfl (fun Lx => ?_) ?_
    · skip
      refine At.move rfl rfl ?_
      refine At.ops0 ?_
      exact fun a ha => ⟨ha, rfl⟩
    refine At.wpcS (i := 2) (d := 16) (.int .i64 (k : Int)) (by kernel_rfl) rfl rfl rfl (fun Lx => ?_) ?_
    · skip
      refine At.move rfl rfl ?_
      refine At.ops0 ?_
      exact fun a ha => ⟨ha, rfl⟩
    obtain ⟨u1, hu1⟩ := some_of_lt (l := ls1) (i := k) (by first | omega | (simp only [List.length_cons, List.length_nil]; omega))
    refine At.wpcS (i := 3) (d := 17) (.pointer (some ⟨vBlock vs1, vOff vs1 + k * 1, none⟩)) (by kernel_rfl) rfl rfl rfl (fun Lx => ?_) ?_
    · skip
      refine At.indexAddr (i := k) rfl rfl (hst1).ok (lt_of_some hu1) el27 sz9 rfl ?_
      refine At.ops0 ?_
      exact fun a ha => ⟨ha, rfl⟩
    refine At.wpcS (i := 4) (d := 18) (.string u1) (by kernel_rfl) rfl rfl rfl (fun Lx => ?_) ?_
    · skip
      refine At.load rfl (Ld.cell ag9 (cell_keep ((hst1).get hu1) (Below.refl _ _))) rfl ?_
      refine At.ops0 ?_
      exact fun a ha => ⟨ha, rfl⟩
    refine At.wpcE [5] (by kernel_rfl) (by kernel_rfl) (.cons [] rfl (by kernel_rfl) ?_ .nil)
    refine At.call en38 rfl rfl (uses_any u1 t _ ((ht).keep hB)) (fun e w4 hR => ?_)
    obtain ⟨rfl, hbl2⟩ := hR
    refine ⟨_, rfl, ?_⟩
    replace hb1 := Below.old hbl2 hb1
    replace hst1 := hst1.below hbl2
    replace hro := hro.below hbl2
    replace hB := Below.andThen hB hbl2
    refine At.ops0 ?_
    refine At.wpcN .nil ?_
    refine At.wpcS (i := 6) (d := 20) (.bool (decide (0 < (usesS u1 t)))) (by kernel_rfl) rfl rfl rfl (fun Lx => ?_) ?_
    · skip
      refine At.gtr rfl rfl rfl ?_
      refine At.ops0 ?_
      exact fun a ha => ⟨ha, rfl⟩
    refine At.wpcZ ?_
    refine At.thenN ?_
    refine At.cond (b := decide (0 < (usesS u1 t))) rfl (fun hc2 => ?_) (fun hc2 => ?_)
    · skip
      have hc2' := of_decide_eq_true hc2
      refine At.region ?_
      refine At.move rfl rfl ?_
      refine At.move rfl rfl ?_
      refine At.move rfl rfl ?_
      refine At.indexAddr (i := k) rfl rfl (hst1).ok (lt_of_some hu1) el27 sz9 rfl ?_
      refine At.load rfl (Ld.cell ag9 (cell_keep ((hst1).get hu1) (Below.refl _ _))) rfl ?_
      refine At.buildSlice (xs := [.tmp 25]) rfl rfl el27 sz9 ze9 (by intro v hv; simp only [List.mem_cons, List.not_mem_nil, or_false] at hv; rcases hv with rfl <;> first | rfl | simp [Value.cells, Value.cells]) rfl (by decide) rfl (fun b2 w5 F2 => ?_)
      have q_hro_b2 : some b2 ≠ Value.ownBlock vo := Own.neFresh hro F2
      have n_b1_b2 : b1 ≠ b2 := Nat.ne_of_lt (F2.lt hb1)
      have gb2 := F2.ge hB
      replace hb1 := F2.old hb1
      replace hst1 := hst1.fresh F2
      replace hro := hro.fresh F2
      have hb2 : w5.heap[b2]? = some (.cells #[.string u1] 9) := F2.new
      replace hB := F2.below' hB
      refine At.appendS (ss := lo) rfl rfl el27 el27 sz9 by9 ze9 rfl hro ((StrsAt.own (ss := [u1]) hb2 rfl (by decide) : StrsAt _ (.slice (some ⟨b2, 0, none⟩) 1 1) [u1])) (by first | omega | (simp only [List.length_cons, List.length_nil]; omega)) rfl (fun va1 w6 hO1 hA1 => ?_)
      replace hb1 := hA1.old hb1 (hro.neT hb1 rfl)
      clear hb2
      have has1 := ApartS.app hap hA1 hst1
      replace hst1 := AppR.strs hA1 hst1 hap
      have ghO1 := hA1.ge hB.size gO
      replace hB := hA1.below hB hB.size gO
      refine At.assign rfl rfl ?_
      refine At.ops0 ?_
      refine At.inN ?_
      refine At.thenN ?_
      refine At.region ?_
      refine At.move rfl rfl ?_
      refine At.addI rfl rfl rfl (by first | omega | (simp only [List.length_cons, List.length_nil]; omega)) ?_
      refine At.assign rfl rfl ?_
      refine At.ops0 ?_
      refine At.thenN ?_
      exact fun a ha => ⟨((k + 1), va1, (lo ++ [u1])), ha.sub (Sub.cons rfl (Sub.cons rfl (Sub.cons rfl (Sub.cons rfl Sub.nil)))), ⟨hB, hb1, hst1, hO1, (ghO1), (has1), (by omega), (by simp only [List.length_append, List.length_cons, List.length_nil]; omega), (by rw [take_succ_snoc hu1]; constructor; intro h; simp at h; intro h; exact absurd (of_decide_eq_true hc2) (h u1 (by simp)))⟩, by first | omega | (dsimp only; omega)⟩
    · skip
      have hc2' := of_decide_eq_false hc2
      refine At.skip ?_
      refine At.inN ?_
      refine At.thenN ?_
      refine At.region ?_
      refine At.move rfl rfl ?_
      refine At.addI rfl rfl rfl (by first | omega | (simp only [List.length_cons, List.length_nil]; omega)) ?_
      refine At.assign rfl rfl ?_
      refine At.ops0 ?_
      refine At.thenN ?_
      exact fun a ha => ⟨((k + 1), vo, lo), ha.sub (Sub.cons rfl (Sub.cons rfl (Sub.cons rfl (Sub.cons rfl Sub.nil)))), ⟨hB, hb1, hst1, hro, (gO), (hap), (by omega), (by omega), (by rw [take_succ_snoc hu1, hiff]; constructor; intro h x hx; rcases List.mem_append.1 hx with h1 | h1; exact h x h1; rw [List.mem_singleton.1 h1]; exact of_decide_eq_false hc2; intro h x hx; exact h x (List.mem_append.2 (.inl hx)))⟩, by first | omega | (dsimp only; omega)⟩
  · skip
    have hc1' := of_decide_eq_false hc1
    refine At.exit ?_
    refine At.thenE ?_
    refine At.thenE ?_
    refine At.inE ?_
    refine At.thenN ?_
    refine At.seq ?_
    refine At.region ?_
    refine At.move rfl rfl ?_
    refine At.assign rfl rfl ?_
    refine At.ops0 ?_
    refine At.thenN ?_
    refine At.retc ?_
    refine At.doneR (ResV.tmp rfl ResV.nil) ?_
    have hfull : ls1.take k = ls1 := List.take_of_length_le (by omega)
    rw [hfull] at hiff
    exact ⟨vo, lo, rfl, hB, hro.strs, hiff.trans ⟨fun h x hx => h x (memB_iff.1 (by rw [hNm1]; exact hx)), fun h x hx => h x (by rw [← hNm1]; exact memB_iff.2 hx)⟩⟩
end Go.Proofs.Ytkclfcdppnlkbaa
