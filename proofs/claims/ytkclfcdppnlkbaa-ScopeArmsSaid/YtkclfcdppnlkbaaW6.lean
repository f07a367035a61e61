/-
  The walks of what every law of the layer scope looks at first: what each call does, for every argument that lies so in memory. Written by a program of ours.
-/
import Derived.Test.YtkclfcdppnlkbaaW5
import Derived.Test.YtkclfcdppnlkbaaS4
set_option linter.unusedVariables false
set_option linter.unusedSimpArgs false
namespace Go.Proofs.Ytkclfcdppnlkbaa
open Go.RowKit
theorem bo4 : boolB Try.prog 4 = true := by kernel_rfl
theorem en10 : entB Try.prog 10 = true := by kernel_rfl
theorem en11 : entB Try.prog 11 = true := by kernel_rfl
theorem en12 : entB Try.prog 12 = true := by kernel_rfl
theorem en15 : entB Try.prog 15 = true := by kernel_rfl
theorem en17 : entB Try.prog 17 = true := by kernel_rfl
theorem en19 : entB Try.prog 19 = true := by kernel_rfl
theorem en21 : entB Try.prog 21 = true := by kernel_rfl
theorem en23 : entB Try.prog 23 = true := by kernel_rfl
theorem sd33 : sizedB Try.prog 33 = true := by kernel_rfl
theorem sd35 : sizedB Try.prog 35 = true := by kernel_rfl
theorem ze35 : zeroB Try.prog 35 = some (.agg #[(.slice none 0 0), (.slice none 0 0), .int .i64 0, .int .i64 0, .string (⟨#[]⟩ : ByteArray), .string (⟨#[]⟩ : ByteArray), .int .i64 0, (.slice none 0 0), (.slice none 0 0), .int .i64 0, .string (⟨#[]⟩ : ByteArray), .int .i64 0, (.slice none 0 0), (.slice none 0 0), .int .i64 0, (.slice none 0 0), .int .i64 0, .int .i64 0, .string (⟨#[]⟩ : ByteArray), .int .i64 0, (.slice none 0 0), (.slice none 0 0), .int .i64 0]) := by kernel_rfl
theorem count_step (t : Tm) (w : World) (ht : TmOk w t) (ih : ∀ (u : Tm), wtT u < wtT t → ∀ (w : World), TmOk w u → Calls Try.prog 23 ([.agg u.cs] : List Value).toArray w fun e w' => e = .returned (.int .i64 (countS u)) ∧ Below w.heap.size w w') :
    Calls Try.prog 23 ([.agg t.cs] : List Value).toArray w fun e w' => e = .returned (.int .i64 (countS t)) ∧ Below w.heap.size w w' := by
  have hkl := ht.kidsAt.lenL
  have hal := ht.armsAt.lenL
  have hB := Below.refl w.heap.size w
  refine At.enter (N := 38) Try.func23 rfl rfl (by simp) [(0, .agg t.cs)] (by simp) ?_
  refine At.seq ?_
  refine At.region ?_
  refine At.box rfl rfl (fun b1 w1 F1 => ?_)
  have gb1 := F1.ge hB
  have hb1 : w1.heap[b1]? = some (.cells t.cs 33) := F1.new
  replace hB := F1.below' hB
  refine At.assign rfl rfl ?_
  refine At.ops0 ?_
  refine At.thenN ?_
  refine At.seq ?_
  refine At.region ?_
  refine At.assign rfl rfl ?_
  refine At.ops0 ?_
  refine At.thenN ?_
  refine At.seq ?_
  refine At.seq ?_
  refine At.region ?_
  refine At.assign rfl rfl ?_
  refine At.ops0 ?_
  refine At.thenN ?_
  refine At.block ?_
  refine At.loop (Nat) (fun k => [(1, .pointer (some ⟨b1, 0, none⟩)), (3, .int .i64 (countL 1 (t.kids.take k))), (4, .int .i64 (k : Int))]) (fun k w2 => Below w.heap.size w w2 ∧ w2.heap[b1]? = some (.cells t.cs 33) ∧ (k ≤ t.kids.length)) (fun k => t.kids.length - k) (0 : Nat) (Sub.cons rfl (Sub.cons rfl (Sub.cons rfl Sub.nil))) ⟨hB, hb1, (Nat.zero_le _)⟩ (fun k w2 hI => ?_)
  clear hB hb1
  obtain ⟨hB, hb1, hkb⟩ := hI
  show At _ _ [(1, .pointer (some ⟨b1, 0, none⟩)), (3, .int .i64 (countL 1 (t.kids.take k))), (4, .int .i64 (k : Int))] _ _
  refine At.seq ?_
  refine At.seq ?_
  refine At.region ?_
  refine At.move rfl rfl ?_
  refine At.fieldAddr rfl fo33_5 rfl ?_
  refine At.load rfl (Ld.ownCell ag24 hb1 (ht).c5) rfl ?_
  refine At.lenSl rfl ((ht).kidsAt).okL el24 rfl ?_
  refine At.lss rfl rfl rfl ?_
  refine At.ops0 ?_
  refine At.thenN ?_
  refine At.cond (b := decide ((k : Int) < (t.kids.length : Int))) rfl (fun hc1 => ?_) (fun hc1 => ?_)
  · skip
    have hc1' := of_decide_eq_true hc1
    refine At.skip ?_
    refine At.thenN ?_
    refine At.seq ?_
    refine At.block ?_
    refine At.region ?_
    refine At.move rfl rfl ?_
    refine At.fieldAddr rfl fo33_5 rfl ?_
    refine At.load rfl (Ld.ownCell ag24 hb1 (ht).c5) rfl ?_
    refine At.move rfl rfl ?_
    obtain ⟨u1, hu1⟩ := some_of_lt (l := t.kids) (i := k) (by omega)
    refine At.indexAddr (i := k) rfl rfl ((ht).kidsAt).okL (lt_of_some hu1) el24 sz33 rfl ?_
    refine At.load rfl (Ld.row ag33 (sz33.trans (congrArg some (((ht).kid hu1)).size.symm)) ((((ht).kidsAt).row hu1).keep hB)) rfl ?_
    refine At.call en23 rfl rfl (ih u1 (by have := wt_kid (List.mem_of_getElem? hu1); omega) _ ((((ht).kid hu1)).keep hB)) (fun e w3 hR => ?_)
    obtain ⟨rfl, hbl1⟩ := hR
    refine ⟨_, rfl, ?_⟩
    replace hb1 := Below.old hbl1 hb1
    replace hB := Below.andThen hB hbl1
    refine At.add rfl rfl rfl ?_
    refine At.assign rfl rfl ?_
    refine At.ops0 ?_
    refine At.inN ?_
    refine At.thenN ?_
    refine At.region ?_
    refine At.move rfl rfl ?_
    refine At.addI rfl rfl rfl (by omega) ?_
    refine At.assign rfl rfl ?_
    refine At.ops0 ?_
    refine At.thenN ?_
    exact fun a ha => ⟨(k + 1), ha.sub (Sub.cons rfl (Sub.cons (congrArg (fun x => some (Value.int .i64 x)) (countL_step hu1).symm) (Sub.cons rfl Sub.nil))), ⟨hB, hb1, (by omega)⟩, by first | omega | (dsimp only; omega)⟩
  · skip
    have hc1' := of_decide_eq_false hc1
    refine At.exit ?_
    refine At.thenE ?_
    refine At.thenE ?_
    refine At.inE ?_
    refine At.thenN ?_
    refine At.seq ?_
    refine At.seq ?_
    refine At.region ?_
    refine At.assign rfl rfl ?_
    refine At.ops0 ?_
    refine At.thenN ?_
    refine At.block ?_
    have hfull : countL 1 (t.kids.take k) = countL 1 t.kids := by rw [List.take_of_length_le (by omega)]
    refine At.set (d := 3) (u := .int .i64 (countL 1 t.kids)) rfl (congrArg (Value.int .i64) hfull) ?_
    refine At.loop (Nat) (fun j => [(1, .pointer (some ⟨b1, 0, none⟩)), (3, .int .i64 (countA (countL 1 t.kids) (t.arms.take j))), (5, .int .i64 (j : Int))]) (fun j w4 => Below w.heap.size w w4 ∧ w4.heap[b1]? = some (.cells t.cs 33) ∧ (j ≤ t.arms.length)) (fun j => t.arms.length - j) (0 : Nat) (Sub.cons rfl (Sub.cons rfl (Sub.cons rfl Sub.nil))) ⟨hB, hb1, (Nat.zero_le _)⟩ (fun j w4 hI => ?_)
    clear hB hb1
    obtain ⟨hB, hb1, hjb⟩ := hI
    show At _ _ [(1, .pointer (some ⟨b1, 0, none⟩)), (3, .int .i64 (countA (countL 1 t.kids) (t.arms.take j))), (5, .int .i64 (j : Int))] _ _
    refine At.seq ?_
    refine At.seq ?_
    refine At.region ?_
    refine At.move rfl rfl ?_
    refine At.fieldAddr rfl fo33_6 rfl ?_
    refine At.load rfl (Ld.ownCell ag25 hb1 (ht).c6) rfl ?_
    refine At.lenSl rfl ((ht).armsAt).okL el25 rfl ?_
    refine At.lss rfl rfl rfl ?_
    refine At.ops0 ?_
    refine At.thenN ?_
    refine At.cond (b := decide ((j : Int) < (t.arms.length : Int))) rfl (fun hc2 => ?_) (fun hc2 => ?_)
    · skip
      have hc2' := of_decide_eq_true hc2
      refine At.skip ?_
      refine At.thenN ?_
      refine At.seq ?_
      refine At.block ?_
      refine At.region ?_
      refine At.move rfl rfl ?_
      refine At.fieldAddr rfl fo33_6 rfl ?_
      refine At.load rfl (Ld.ownCell ag25 hb1 (ht).c6) rfl ?_
      refine At.move rfl rfl ?_
      obtain ⟨u2, hu2⟩ := some_of_lt (l := t.arms) (i := j) (by omega)
      refine At.indexAddr (i := j) rfl rfl ((ht).armsAt).okL (lt_of_some hu2) el25 sz71 rfl ?_
      refine At.fieldAddr rfl fo71_2 rfl ?_
      refine At.load rfl (Ld.row ag33 (sz33.trans (congrArg some ((((ht).arm hu2)).body).size.symm)) (((((ht).armsAt).row hu2).part 2 (((ht).arm hu2)).bodyCs).keep hB)) rfl ?_
      refine At.call en23 rfl rfl (ih u2.body (by have := wt_arm (List.mem_of_getElem? hu2); omega) _ (((((ht).arm hu2)).body).keep hB)) (fun e w5 hR => ?_)
      obtain ⟨rfl, hbl2⟩ := hR
      refine ⟨_, rfl, ?_⟩
      replace hb1 := Below.old hbl2 hb1
      replace hB := Below.andThen hB hbl2
      refine At.add rfl rfl rfl ?_
      refine At.assign rfl rfl ?_
      refine At.ops0 ?_
      refine At.inN ?_
      refine At.thenN ?_
      refine At.region ?_
      refine At.move rfl rfl ?_
      refine At.addI rfl rfl rfl (by omega) ?_
      refine At.assign rfl rfl ?_
      refine At.ops0 ?_
      refine At.thenN ?_
      exact fun a ha => ⟨(j + 1), ha.sub (Sub.cons rfl (Sub.cons (congrArg (fun x => some (Value.int .i64 x)) (countA_step hu2).symm) (Sub.cons rfl Sub.nil))), ⟨hB, hb1, (by omega)⟩, by first | omega | (dsimp only; omega)⟩
    · skip
      have hc2' := of_decide_eq_false hc2
      refine At.exit ?_
      refine At.thenE ?_
      refine At.thenE ?_
      refine At.inE ?_
      refine At.thenN ?_
      refine At.seq ?_
      refine At.region ?_
      refine At.move rfl rfl ?_
      refine At.assign rfl rfl ?_
      refine At.ops0 ?_
      refine At.thenN ?_
      refine At.retc ?_
      refine At.doneR (ResV.tmp rfl ResV.nil) ?_
      exact ⟨congrArg Ending.returned (congrArg (Value.int .i64) (by rw [countS_eq, List.take_of_length_le (by omega)])), hB⟩
theorem count_any (t : Tm) (w : World) (ht : TmOk w t) : Calls Try.prog 23 ([.agg t.cs] : List Value).toArray w fun e w' => e = .returned (.int .i64 (countS t)) ∧ Below w.heap.size w w' := by
  have key : ∀ (n : Nat) (t : Tm), wtT t = n → ∀ (w : World), TmOk w t → Calls Try.prog 23 ([.agg t.cs] : List Value).toArray w fun e w' => e = .returned (.int .i64 (countS t)) ∧ Below w.heap.size w w' := by
    intro n
    induction n using Nat.strongRecOn with
    | _ n ih => intro t hn w h; exact count_step t w h (fun u hu => ih (wtT u) (hn ▸ hu) u rfl)
  exact key _ t rfl w ht
theorem large_any (p : Pr) (w : World) (hp : PrOk w p) :
    Calls Try.prog 11 ([.agg p.cs] : List Value).toArray w fun e w' => e = .returned (.bool (largeB p)) ∧ Below w.heap.size w w' := by
  have hel := hp.effsAt.lenL
  have hdl := hp.datsAt.lenL
  have hB := Below.refl w.heap.size w
  refine At.enter (N := 70) Try.func11 rfl rfl (by simp) [(0, .agg p.cs)] (by simp) ?_
  refine At.seq ?_
  refine At.region ?_
  refine At.box rfl rfl (fun b1 w1 F1 => ?_)
  have gb1 := F1.ge hB
  have hb1 : w1.heap[b1]? = some (.cells p.cs 35) := F1.new
  replace hB := F1.below' hB
  refine At.assign rfl rfl ?_
  refine At.ops0 ?_
  refine At.thenN ?_
  refine At.seq ?_
  refine At.region ?_
  refine At.fieldAddr rfl fo35_0 rfl ?_
  refine At.load rfl (Ld.ownCell ag22 hb1 (hp).c0) rfl ?_
  refine At.lenSl rfl ((hp).effsAt).okL el22 rfl ?_
  refine At.fieldAddr rfl fo35_1 rfl ?_
  refine At.load rfl (Ld.ownCell ag23 hb1 (hp).c1) rfl ?_
  refine At.lenSl rfl ((hp).datsAt).okL el23 rfl ?_
  refine At.add rfl rfl rfl ?_
  refine At.assign rfl rfl ?_
  refine At.ops0 ?_
  refine At.thenN ?_
  refine At.seq ?_
  refine At.seq ?_
  refine At.region ?_
  refine At.assign rfl rfl ?_
  refine At.ops0 ?_
  refine At.thenN ?_
  refine At.block ?_
  refine At.loop (Nat) (fun k => [(1, .pointer (some ⟨b1, 0, none⟩)), (3, .int .i64 ((p.effs.take k).foldl effN (IntKind.i64.wrap ((p.effs.length : Int) + (p.dats.length : Int))))), (4, .int .i64 (k : Int))]) (fun k w2 => w1 = w2 ∧ (k ≤ p.effs.length)) (fun k => p.effs.length - k) (0 : Nat) (Sub.cons rfl (Sub.cons rfl (Sub.cons rfl Sub.nil))) ⟨rfl, (Nat.zero_le _)⟩ (fun k w2 hI => ?_)
  obtain ⟨rfl, hkb⟩ := hI
  show At _ _ [(1, .pointer (some ⟨b1, 0, none⟩)), (3, .int .i64 ((p.effs.take k).foldl effN (IntKind.i64.wrap ((p.effs.length : Int) + (p.dats.length : Int))))), (4, .int .i64 (k : Int))] _ _
  refine At.seq ?_
  refine At.seq ?_
  refine At.region ?_
  refine At.move rfl rfl ?_
  refine At.fieldAddr rfl fo35_0 rfl ?_
  refine At.load rfl (Ld.ownCell ag22 hb1 (hp).c0) rfl ?_
  refine At.lenSl rfl ((hp).effsAt).okL el22 rfl ?_
  refine At.lss rfl rfl rfl ?_
  refine At.ops0 ?_
  refine At.thenN ?_
  refine At.cond (b := decide ((k : Int) < (p.effs.length : Int))) rfl (fun hc1 => ?_) (fun hc1 => ?_)
  · skip
    have hc1' := of_decide_eq_true hc1
    refine At.skip ?_
    refine At.thenN ?_
    refine At.seq ?_
    refine At.block ?_
    refine At.region ?_
    refine At.move rfl rfl ?_
    refine At.fieldAddr rfl fo35_0 rfl ?_
    refine At.load rfl (Ld.ownCell ag22 hb1 (hp).c0) rfl ?_
    refine At.move rfl rfl ?_
    obtain ⟨u1, hu1⟩ := some_of_lt (l := p.effs) (i := k) (by omega)
    refine At.indexAddr (i := k) rfl rfl ((hp).effsAt).okL (lt_of_some hu1) el22 sz43 rfl ?_
    refine At.fieldAddr rfl fo43_1 rfl ?_
    refine At.load rfl (Ld.cell ag41 (cell_keep ((((hp).effsAt).row hu1).get (((hp).eff hu1)).c1) hB)) rfl ?_
    refine At.lenSl rfl ((((hp).eff hu1)).opsAt).okL el41 rfl ?_
    refine At.add rfl rfl rfl ?_
    refine At.assign rfl rfl ?_
    refine At.ops0 ?_
    refine At.inN ?_
    refine At.thenN ?_
    refine At.region ?_
    refine At.move rfl rfl ?_
    refine At.addI rfl rfl rfl (by omega) ?_
    refine At.assign rfl rfl ?_
    refine At.ops0 ?_
    refine At.thenN ?_
    exact fun a ha => ⟨(k + 1), ha.sub (Sub.cons rfl (Sub.cons (congrArg (fun x => some (Value.int .i64 x)) (foldl_step (f := effN) hu1).symm) (Sub.cons rfl Sub.nil))), ⟨rfl, (by omega)⟩, by first | omega | (dsimp only; omega)⟩
  · skip
    have hc1' := of_decide_eq_false hc1
    refine At.exit ?_
    refine At.thenE ?_
    refine At.thenE ?_
    refine At.inE ?_
    refine At.thenN ?_
    refine At.seq ?_
    refine At.seq ?_
    refine At.region ?_
    refine At.assign rfl rfl ?_
    refine At.ops0 ?_
    refine At.thenN ?_
    refine At.block ?_
    have hfull : ((p.effs.take k).foldl effN (IntKind.i64.wrap ((p.effs.length : Int) + (p.dats.length : Int)))) = (p.effs.foldl effN (IntKind.i64.wrap ((p.effs.length : Int) + (p.dats.length : Int)))) := by rw [List.take_of_length_le (by omega)]
    refine At.set (d := 3) (u := .int .i64 (p.effs.foldl effN (IntKind.i64.wrap ((p.effs.length : Int) + (p.dats.length : Int))))) rfl (congrArg (Value.int .i64) hfull) ?_
    refine At.loop (Nat) (fun j => [(1, .pointer (some ⟨b1, 0, none⟩)), (3, .int .i64 ((p.dats.take j).foldl datN (p.effs.foldl effN (IntKind.i64.wrap ((p.effs.length : Int) + (p.dats.length : Int)))))), (5, .int .i64 (j : Int))]) (fun j w3 => w1 = w3 ∧ (j ≤ p.dats.length)) (fun j => p.dats.length - j) (0 : Nat) (Sub.cons rfl (Sub.cons rfl (Sub.cons rfl Sub.nil))) ⟨rfl, (Nat.zero_le _)⟩ (fun j w3 hI => ?_)
    obtain ⟨rfl, hjb⟩ := hI
    show At _ _ [(1, .pointer (some ⟨b1, 0, none⟩)), (3, .int .i64 ((p.dats.take j).foldl datN (p.effs.foldl effN (IntKind.i64.wrap ((p.effs.length : Int) + (p.dats.length : Int)))))), (5, .int .i64 (j : Int))] _ _
    refine At.seq ?_
    refine At.seq ?_
    refine At.region ?_
    refine At.move rfl rfl ?_
    refine At.fieldAddr rfl fo35_1 rfl ?_
    refine At.load rfl (Ld.ownCell ag23 hb1 (hp).c1) rfl ?_
    refine At.lenSl rfl ((hp).datsAt).okL el23 rfl ?_
    refine At.lss rfl rfl rfl ?_
    refine At.ops0 ?_
    refine At.thenN ?_
    refine At.cond (b := decide ((j : Int) < (p.dats.length : Int))) rfl (fun hc2 => ?_) (fun hc2 => ?_)
    · skip
      have hc2' := of_decide_eq_true hc2
      refine At.skip ?_
      refine At.thenN ?_
      refine At.seq ?_
      refine At.block ?_
      refine At.seq ?_
      refine At.region ?_
      refine At.assign rfl rfl ?_
      refine At.ops0 ?_
      refine At.thenN ?_
      refine At.block ?_
      obtain ⟨u2, hu2⟩ := some_of_lt (l := p.dats) (i := j) (by omega)
      have hcl := (hp.dat hu2).consAt.lenL
      refine At.loop (Nat) (fun i => [(1, .pointer (some ⟨b1, 0, none⟩)), (3, .int .i64 ((u2.cons.take i).foldl conN ((p.dats.take j).foldl datN (p.effs.foldl effN (IntKind.i64.wrap ((p.effs.length : Int) + (p.dats.length : Int))))))), (5, .int .i64 (j : Int)), (6, .int .i64 (i : Int))]) (fun i w4 => w1 = w4 ∧ (i ≤ u2.cons.length)) (fun i => u2.cons.length - i) (0 : Nat) (Sub.cons rfl (Sub.cons rfl (Sub.cons rfl (Sub.cons rfl Sub.nil)))) ⟨rfl, (Nat.zero_le _)⟩ (fun i w4 hI => ?_)
      obtain ⟨rfl, hib⟩ := hI
      show At _ _ [(1, .pointer (some ⟨b1, 0, none⟩)), (3, .int .i64 ((u2.cons.take i).foldl conN ((p.dats.take j).foldl datN (p.effs.foldl effN (IntKind.i64.wrap ((p.effs.length : Int) + (p.dats.length : Int))))))), (5, .int .i64 (j : Int)), (6, .int .i64 (i : Int))] _ _
      refine At.seq ?_
      refine At.seq ?_
      refine At.region ?_
      refine At.move rfl rfl ?_
      refine At.fieldAddr rfl fo35_1 rfl ?_
      refine At.load rfl (Ld.ownCell ag23 hb1 (hp).c1) rfl ?_
      refine At.move rfl rfl ?_
      refine At.indexAddr (i := j) rfl rfl ((hp).datsAt).okL (lt_of_some hu2) el23 sz52 rfl ?_
      refine At.fieldAddr rfl fo52_1 rfl ?_
      refine At.load rfl (Ld.cell ag50 (cell_keep ((((hp).datsAt).row hu2).get (((hp).dat hu2)).c1) hB)) rfl ?_
      refine At.lenSl rfl ((((hp).dat hu2)).consAt).okL el50 rfl ?_
      refine At.lss rfl rfl rfl ?_
      refine At.ops0 ?_
      refine At.thenN ?_
      refine At.cond (b := decide ((i : Int) < (u2.cons.length : Int))) rfl (fun hc3 => ?_) (fun hc3 => ?_)
      · skip
        have hc3' := of_decide_eq_true hc3
        refine At.skip ?_
        refine At.thenN ?_
        refine At.seq ?_
        refine At.block ?_
        refine At.region ?_
        refine At.move rfl rfl ?_
        refine At.add rfl rfl rfl ?_
        refine At.fieldAddr rfl fo35_1 rfl ?_
        refine At.load rfl (Ld.ownCell ag23 hb1 (hp).c1) rfl ?_
        refine At.move rfl rfl ?_
        refine At.indexAddr (i := j) rfl rfl ((hp).datsAt).okL (lt_of_some hu2) el23 sz52 rfl ?_
        refine At.fieldAddr rfl fo52_1 rfl ?_
        refine At.load rfl (Ld.cell ag50 (cell_keep ((((hp).datsAt).row hu2).get (((hp).dat hu2)).c1) hB)) rfl ?_
        refine At.move rfl rfl ?_
        obtain ⟨u3, hu3⟩ := some_of_lt (l := u2.cons) (i := i) (by omega)
        refine At.indexAddr (i := i) rfl rfl ((((hp).dat hu2)).consAt).okL (lt_of_some hu3) el50 sz54 rfl ?_
        refine At.fieldAddr rfl fo54_1 rfl ?_
        refine At.load rfl (Ld.cell ag26 (cell_keep ((((((hp).dat hu2)).consAt).row hu3).get (((((hp).dat hu2)).con hu3)).c1) hB)) rfl ?_
        refine At.lenSl rfl ((((((hp).dat hu2)).con hu3)).fieldsAt).okL el26 rfl ?_
        refine At.add rfl rfl rfl ?_
        refine At.assign rfl rfl ?_
        refine At.ops0 ?_
        refine At.inN ?_
        refine At.thenN ?_
        refine At.region ?_
        refine At.move rfl rfl ?_
        refine At.addI rfl rfl rfl (by omega) ?_
        refine At.assign rfl rfl ?_
        refine At.ops0 ?_
        refine At.thenN ?_
        exact fun a ha => ⟨(i + 1), ha.sub (Sub.cons rfl (Sub.cons (congrArg (fun x => some (Value.int .i64 x)) (foldl_step (f := conN) hu3).symm) (Sub.cons rfl (Sub.cons rfl Sub.nil)))), ⟨rfl, (by omega)⟩, by first | omega | (dsimp only; omega)⟩
      · skip
        have hc3' := of_decide_eq_false hc3
        refine At.exit ?_
        refine At.thenE ?_
        refine At.thenE ?_
        refine At.inE ?_
        refine At.inN ?_
        refine At.thenN ?_
        refine At.region ?_
        refine At.move rfl rfl ?_
        refine At.addI rfl rfl rfl (by omega) ?_
        refine At.assign rfl rfl ?_
        refine At.ops0 ?_
        refine At.thenN ?_
        exact fun a ha => ⟨(j + 1), ha.sub (Sub.cons rfl (Sub.cons (congrArg (fun x => some (Value.int .i64 x)) (show (u2.cons.take i).foldl conN _ = _ by rw [List.take_of_length_le (show u2.cons.length ≤ i from by omega)]; exact (foldl_step (f := datN) hu2).symm)) (Sub.cons rfl Sub.nil))), ⟨rfl, (by omega)⟩, by first | omega | (dsimp only; omega)⟩
    · skip
      have hc2' := of_decide_eq_false hc2
      refine At.exit ?_
      refine At.thenE ?_
      refine At.thenE ?_
      refine At.inE ?_
      refine At.thenN ?_
      refine At.seq ?_
      have hfull2 : ((p.dats.take j).foldl datN (p.effs.foldl effN (IntKind.i64.wrap ((p.effs.length : Int) + (p.dats.length : Int))))) = largeN p := by rw [List.take_of_length_le (by omega)]; rfl
      refine At.set (d := 3) (u := .int .i64 (largeN p)) rfl (congrArg (Value.int .i64) hfull2) ?_
      refine At.region ?_
      refine At.move rfl rfl ?_
      refine At.gtr rfl rfl rfl ?_
      refine At.move rfl rfl ?_
      refine At.cases (decide (100 < (largeN p))) (fun hg1 => ?_) (fun hg1 => ?_)
      · skip
        refine At.set (d := 64) (u := .bool true) rfl (congrArg Value.bool hg1) ?_
        have hg1' := of_decide_eq_true hg1
        refine At.no rfl rfl rfl rfl rfl rfl rfl ?_
        refine At.no rfl rfl rfl rfl rfl rfl rfl ?_
        refine At.no rfl rfl rfl rfl rfl rfl rfl ?_
        refine At.no rfl rfl rfl rfl rfl rfl rfl ?_
        refine At.pickT rfl rfl rfl ?_
        refine At.assign rfl rfl ?_
        refine At.ops0 ?_
        refine At.thenN ?_
        refine At.retc ?_
        refine At.doneR (ResV.tmp rfl ResV.nil) ?_
        exact ⟨congrArg Ending.returned (congrArg Value.bool (by simp only [largeB, hg1, if_true, if_false, Bool.false_eq_true])), hB⟩
      · skip
        refine At.set (d := 64) (u := .bool false) rfl (congrArg Value.bool hg1) ?_
        have hg1' := of_decide_eq_false hg1
        refine At.yes rfl rfl rfl rfl ?_
        refine At.fieldAddr rfl fo35_2 rfl ?_
        refine At.yes rfl rfl rfl rfl ?_
        refine At.load rfl (Ld.ownPart ag33 (sz33.trans (congrArg some ((hp).bodyOk).size.symm)) hb1 (hp).bodyCs) rfl ?_
        refine At.yes rfl rfl rfl rfl ?_
        refine At.call en23 rfl rfl (count_any p.body _ (((hp).bodyOk).keep hB)) (fun e w5 hR => ?_)
        obtain ⟨rfl, hbl1⟩ := hR
        refine ⟨_, rfl, ?_⟩
        replace hb1 := Below.old hbl1 hb1
        replace hB := Below.andThen hB hbl1
        refine At.yes rfl rfl rfl rfl ?_
        refine At.gtr rfl rfl rfl ?_
        refine At.pickF rfl rfl rfl ?_
        refine At.assign rfl rfl ?_
        refine At.ops0 ?_
        refine At.thenN ?_
        refine At.retc ?_
        refine At.doneR (ResV.tmp rfl ResV.nil) ?_
        exact ⟨congrArg Ending.returned (congrArg Value.bool (by simp only [largeB, hg1, if_true, if_false, Bool.false_eq_true])), hB⟩
theorem shown_any  (w : World)  :
    Calls Try.prog 10 ([] : List Value).toArray w fun e w' => e = .returned (.bool true) ∧ Below w.heap.size w w' := by
  have hB := Below.refl w.heap.size w
  refine At.enter (N := 50) Try.func10 rfl rfl (by simp) [] (by simp) ?_
  refine At.seq ?_
  refine At.region ?_
  refine At.assign rfl rfl ?_
  refine At.ops0 ?_
  refine At.thenN ?_
  refine At.seq ?_
  refine At.region ?_
  refine At.build (C := #[.int .i64 1, .int .i64 9, .string (⟨#[121]⟩ : ByteArray), .string (⟨#[]⟩ : ByteArray), .int .i64 0, (.slice none 0 0), (.slice none 0 0), .int .i64 0, .string (⟨#[]⟩ : ByteArray), .int .i64 0, (.slice none 0 0), (.slice none 0 0), .int .i64 0, (.slice none 0 0), .int .i64 0, .int .i64 0, .string (⟨#[]⟩ : ByteArray), .int .i64 0, (.slice none 0 0), (.slice none 0 0), .int .i64 0]) sd33 ze33 rfl (Bld.cons fo33_0 rfl (by decide) (Bld.cons fo33_2 rfl (by decide) (Bld.cons fo33_1 rfl (by decide) (Bld.nil _)))) rfl ?_
  refine At.alloc ze33 rfl (fun b1 w1 F1 => ?_)
  have gb1 := F1.ge hB
  have hb1 : w1.heap[b1]? = some (.cells #[.int .i64 0, .int .i64 0, .string (⟨#[]⟩ : ByteArray), .string (⟨#[]⟩ : ByteArray), .int .i64 0, (.slice none 0 0), (.slice none 0 0), .int .i64 0, .string (⟨#[]⟩ : ByteArray), .int .i64 0, (.slice none 0 0), (.slice none 0 0), .int .i64 0, (.slice none 0 0), .int .i64 0, .int .i64 0, .string (⟨#[]⟩ : ByteArray), .int .i64 0, (.slice none 0 0), (.slice none 0 0), .int .i64 0] 33) := F1.new
  replace hB := F1.below' hB
  refine At.storeAll rfl rfl hb1 sz33 rfl (by simp [Value.oneCell', ((SlOk.nil)).one, ((SlOk.nil)).one, ((SlOk.nil)).one, ((SlOk.nil)).one, ((SlOk.nil)).one, ((SlOk.nil)).one, ((SlOk.nil)).one]) (fun w2 S1 => ?_)
  replace hb1 : w2.heap[b1]? = some (.cells #[.int .i64 1, .int .i64 9, .string (⟨#[121]⟩ : ByteArray), .string (⟨#[]⟩ : ByteArray), .int .i64 0, (.slice none 0 0), (.slice none 0 0), .int .i64 0, .string (⟨#[]⟩ : ByteArray), .int .i64 0, (.slice none 0 0), (.slice none 0 0), .int .i64 0, (.slice none 0 0), .int .i64 0, .int .i64 0, .string (⟨#[]⟩ : ByteArray), .int .i64 0, (.slice none 0 0), (.slice none 0 0), .int .i64 0] 33) := S1.new
  replace hB := S1.below' hB gb1
  refine At.ops0 ?_
  refine At.thenN ?_
  refine At.seq ?_
  refine At.region ?_
  refine At.load rfl (Ld.own (C := #[.int .i64 1, .int .i64 9, .string (⟨#[121]⟩ : ByteArray), .string (⟨#[]⟩ : ByteArray), .int .i64 0, (.slice none 0 0), (.slice none 0 0), .int .i64 0, .string (⟨#[]⟩ : ByteArray), .int .i64 0, (.slice none 0 0), (.slice none 0 0), .int .i64 0, (.slice none 0 0), .int .i64 0, .int .i64 0, .string (⟨#[]⟩ : ByteArray), .int .i64 0, (.slice none 0 0), (.slice none 0 0), .int .i64 0]) ag33 sz33 hb1) rfl ?_
  refine At.buildSlice (xs := [.tmp 10]) rfl rfl el24 sz33 ze33 (by intro v hv; simp only [List.mem_cons, List.not_mem_nil, or_false] at hv; rcases hv with rfl <;> first | rfl | simp [Value.cells, Value.cells]) rfl (by decide) rfl (fun b2 w3 F2 => ?_)
  have n_b1_b2 : b1 ≠ b2 := Nat.ne_of_lt (F2.lt hb1)
  have gb2 := F2.ge hB
  replace hb1 := F2.old hb1
  have hb2 : w3.heap[b2]? = some (.cells #[.int .i64 1, .int .i64 9, .string (⟨#[121]⟩ : ByteArray), .string (⟨#[]⟩ : ByteArray), .int .i64 0, (.slice none 0 0), (.slice none 0 0), .int .i64 0, .string (⟨#[]⟩ : ByteArray), .int .i64 0, (.slice none 0 0), (.slice none 0 0), .int .i64 0, (.slice none 0 0), .int .i64 0, .int .i64 0, .string (⟨#[]⟩ : ByteArray), .int .i64 0, (.slice none 0 0), (.slice none 0 0), .int .i64 0] 33) := F2.new
  replace hB := F2.below' hB
  refine At.build (C := #[.int .i64 5, .int .i64 0, .string (⟨#[120]⟩ : ByteArray), .string (⟨#[]⟩ : ByteArray), .int .i64 0, (.slice (some ⟨b2, 0, none⟩) 1 1), (.slice none 0 0), .int .i64 0, .string (⟨#[]⟩ : ByteArray), .int .i64 0, (.slice none 0 0), (.slice none 0 0), .int .i64 0, (.slice none 0 0), .int .i64 0, .int .i64 0, .string (⟨#[]⟩ : ByteArray), .int .i64 0, (.slice none 0 0), (.slice none 0 0), .int .i64 0]) sd33 ze33 rfl (Bld.cons fo33_0 rfl (by decide) (Bld.cons fo33_2 rfl (by decide) (Bld.cons fo33_5 rfl (by decide) (Bld.nil _)))) rfl ?_
  refine At.build (C := #[(.slice none 0 0), (.slice none 0 0), .int .i64 5, .int .i64 0, .string (⟨#[120]⟩ : ByteArray), .string (⟨#[]⟩ : ByteArray), .int .i64 0, (.slice (some ⟨b2, 0, none⟩) 1 1), (.slice none 0 0), .int .i64 0, .string (⟨#[]⟩ : ByteArray), .int .i64 0, (.slice none 0 0), (.slice none 0 0), .int .i64 0, (.slice none 0 0), .int .i64 0, .int .i64 0, .string (⟨#[]⟩ : ByteArray), .int .i64 0, (.slice none 0 0), (.slice none 0 0), .int .i64 0]) sd35 ze35 rfl (Bld.cons fo35_2 rfl (by decide) (Bld.nil _)) rfl ?_
  refine At.alloc ze35 rfl (fun b3 w4 F3 => ?_)
  have n_b1_b3 : b1 ≠ b3 := Nat.ne_of_lt (F3.lt hb1)
  have n_b2_b3 : b2 ≠ b3 := Nat.ne_of_lt (F3.lt hb2)
  have gb3 := F3.ge hB
  replace hb1 := F3.old hb1
  replace hb2 := F3.old hb2
  have hb3 : w4.heap[b3]? = some (.cells #[(.slice none 0 0), (.slice none 0 0), .int .i64 0, .int .i64 0, .string (⟨#[]⟩ : ByteArray), .string (⟨#[]⟩ : ByteArray), .int .i64 0, (.slice none 0 0), (.slice none 0 0), .int .i64 0, .string (⟨#[]⟩ : ByteArray), .int .i64 0, (.slice none 0 0), (.slice none 0 0), .int .i64 0, (.slice none 0 0), .int .i64 0, .int .i64 0, .string (⟨#[]⟩ : ByteArray), .int .i64 0, (.slice none 0 0), (.slice none 0 0), .int .i64 0] 35) := F3.new
  replace hB := F3.below' hB
  refine At.storeAll rfl rfl hb3 sz35 rfl (by simp [Value.oneCell', ((SlOk.nil)).one, ((SlOk.nil)).one, ((SlOk.nil)).one, ((SlOk.nil)).one, ((SlOk.nil)).one, ((SlOk.nil)).one, ((SlOk.nil)).one, ((SlOk.nil)).one]) (fun w5 S2 => ?_)
  replace hb1 := S2.other hb1 n_b1_b3
  replace hb2 := S2.other hb2 n_b2_b3
  replace hb3 : w5.heap[b3]? = some (.cells #[(.slice none 0 0), (.slice none 0 0), .int .i64 5, .int .i64 0, .string (⟨#[120]⟩ : ByteArray), .string (⟨#[]⟩ : ByteArray), .int .i64 0, (.slice (some ⟨b2, 0, none⟩) 1 1), (.slice none 0 0), .int .i64 0, .string (⟨#[]⟩ : ByteArray), .int .i64 0, (.slice none 0 0), (.slice none 0 0), .int .i64 0, (.slice none 0 0), .int .i64 0, .int .i64 0, .string (⟨#[]⟩ : ByteArray), .int .i64 0, (.slice none 0 0), (.slice none 0 0), .int .i64 0] 35) := S2.new
  replace hB := S2.below' hB gb3
  refine At.ops0 ?_
  refine At.thenN ?_
  refine At.seq ?_
  refine At.region ?_
  refine At.load rfl (Ld.own (C := #[(.slice none 0 0), (.slice none 0 0), .int .i64 5, .int .i64 0, .string (⟨#[120]⟩ : ByteArray), .string (⟨#[]⟩ : ByteArray), .int .i64 0, (.slice (some ⟨b2, 0, none⟩) 1 1), (.slice none 0 0), .int .i64 0, .string (⟨#[]⟩ : ByteArray), .int .i64 0, (.slice none 0 0), (.slice none 0 0), .int .i64 0, (.slice none 0 0), .int .i64 0, .int .i64 0, .string (⟨#[]⟩ : ByteArray), .int .i64 0, (.slice none 0 0), (.slice none 0 0), .int .i64 0]) ag35 sz35 hb3) rfl ?_
  refine At.call en12 rfl rfl (check_any (shownP b2 (⟨#[121]⟩ : ByteArray)) _ (shownP_ok hb2) (shownP_sz _ _) (shownP_wt _ _)) (fun e w6 hR => ?_)
  rw [shown_y] at hR
  obtain ⟨rfl, hbl1⟩ := hR
  refine ⟨_, rfl, ?_⟩
  replace hb1 := Below.old hbl1 hb1
  replace hb2 := Below.old hbl1 hb2
  replace hb3 := Below.old hbl1 hb3
  replace hB := Below.andThen hB hbl1
  refine At.move rfl rfl ?_
  refine At.extract rfl rfl rfl ?_
  refine At.extract rfl rfl rfl ?_
  refine At.assign rfl rfl ?_
  refine At.assign rfl rfl ?_
  refine At.ops0 ?_
  refine At.thenN ?_
  refine At.seq ?_
  refine At.region ?_
  refine At.fieldAddr rfl fo35_2 rfl ?_
  refine At.fieldAddr rfl fo33_5 rfl ?_
  refine At.load rfl (Ld.ownCell ag24 hb3 rfl) rfl ?_
  refine At.indexAddr (i := 0) rfl rfl (show SlOk (.slice (some ⟨b2, 0, none⟩) 1 1) 1 from .inr ⟨⟨_, 0, none⟩, _, rfl, by decide, fun _ => rfl⟩) (by decide) el24 sz33 rfl ?_
  refine At.set (d := 22) (u := .pointer (some ⟨b2, 0, none⟩)) rfl rfl ?_
  refine At.fieldAddr rfl fo33_2 rfl ?_
  refine At.store1 rfl rfl hb2 sz9 (by simp) rfl (fun w7 S3 => ?_)
  replace hb1 := S3.other hb1 n_b1_b2
  replace hb3 := S3.other hb3 n_b2_b3.symm
  replace hb2 : w7.heap[b2]? = some (.cells #[.int .i64 1, .int .i64 9, .string (⟨#[120]⟩ : ByteArray), .string (⟨#[]⟩ : ByteArray), .int .i64 0, (.slice none 0 0), (.slice none 0 0), .int .i64 0, .string (⟨#[]⟩ : ByteArray), .int .i64 0, (.slice none 0 0), (.slice none 0 0), .int .i64 0, (.slice none 0 0), .int .i64 0, .int .i64 0, .string (⟨#[]⟩ : ByteArray), .int .i64 0, (.slice none 0 0), (.slice none 0 0), .int .i64 0] 33) := S3.new
  replace hB := S3.below' hB gb2
  refine At.ops0 ?_
  refine At.thenN ?_
  refine At.seq ?_
  refine At.region ?_
  refine At.load rfl (Ld.own (C := #[(.slice none 0 0), (.slice none 0 0), .int .i64 5, .int .i64 0, .string (⟨#[120]⟩ : ByteArray), .string (⟨#[]⟩ : ByteArray), .int .i64 0, (.slice (some ⟨b2, 0, none⟩) 1 1), (.slice none 0 0), .int .i64 0, .string (⟨#[]⟩ : ByteArray), .int .i64 0, (.slice none 0 0), (.slice none 0 0), .int .i64 0, (.slice none 0 0), .int .i64 0, .int .i64 0, .string (⟨#[]⟩ : ByteArray), .int .i64 0, (.slice none 0 0), (.slice none 0 0), .int .i64 0]) ag35 sz35 hb3) rfl ?_
  refine At.call en12 rfl rfl (check_any (shownP b2 (⟨#[120]⟩ : ByteArray)) _ (shownP_ok hb2) (shownP_sz _ _) (shownP_wt _ _)) (fun e w8 hR => ?_)
  rw [shown_x] at hR
  obtain ⟨rfl, hbl2⟩ := hR
  refine ⟨_, rfl, ?_⟩
  replace hb1 := Below.old hbl2 hb1
  replace hb2 := Below.old hbl2 hb2
  replace hb3 := Below.old hbl2 hb3
  replace hB := Below.andThen hB hbl2
  refine At.move rfl rfl ?_
  refine At.extract rfl rfl rfl ?_
  refine At.extract rfl rfl rfl ?_
  refine At.assign rfl rfl ?_
  refine At.assign rfl rfl ?_
  refine At.ops0 ?_
  refine At.thenN ?_
  refine At.seq ?_
  refine At.region ?_
  refine At.call en20 rfl rfl (prims_any (⟨#[43]⟩ : ByteArray) _) (fun e w' hR => ?_)
  obtain ⟨rfl, rfl⟩ := hR
  refine ⟨_, rfl, ?_⟩
  refine At.set (d := 30) (u := .tuple #[.int .i64 2, .bool true]) rfl (by simp [primV, primN]) ?_
  refine At.move rfl rfl ?_
  refine At.extract rfl rfl rfl ?_
  refine At.extract rfl rfl rfl ?_
  refine At.assign rfl rfl ?_
  refine At.assign rfl rfl ?_
  refine At.ops0 ?_
  refine At.thenN ?_
  refine At.seq ?_
  refine At.region ?_
  refine At.move rfl rfl ?_
  refine At.eqI rfl rfl rfl ?_
  refine At.set (d := 34) (u := .bool true) rfl (congrArg Value.bool (by simp)) ?_
  refine At.move rfl rfl ?_
  refine At.yes rfl rfl rfl rfl ?_
  refine At.move rfl rfl ?_
  refine At.yes rfl rfl rfl rfl ?_
  refine At.eqI rfl rfl rfl ?_
  refine At.set (d := 37) (u := .bool true) rfl (congrArg Value.bool (by simp)) ?_
  refine At.pickT rfl rfl rfl ?_
  refine At.move rfl rfl ?_
  refine At.yes rfl rfl rfl rfl ?_
  refine At.move rfl rfl ?_
  refine At.yes rfl rfl rfl rfl ?_
  refine At.eqI rfl rfl rfl ?_
  refine At.set (d := 41) (u := .bool true) rfl (congrArg Value.bool (by simp)) ?_
  refine At.pickT rfl rfl rfl ?_
  refine At.move rfl rfl ?_
  refine At.yes rfl rfl rfl rfl ?_
  refine At.move rfl rfl ?_
  refine At.yes rfl rfl rfl rfl ?_
  refine At.eqI rfl rfl rfl ?_
  refine At.set (d := 45) (u := .bool true) rfl (congrArg Value.bool (by simp)) ?_
  refine At.pickT rfl rfl rfl ?_
  refine At.move rfl rfl ?_
  refine At.yes rfl rfl rfl rfl ?_
  refine At.move rfl rfl ?_
  refine At.pickT rfl rfl rfl ?_
  refine At.assign rfl rfl ?_
  refine At.ops0 ?_
  refine At.thenN ?_
  refine At.retc ?_
  refine At.doneR (ResV.tmp rfl ResV.nil) ?_
  exact ⟨rfl, hB⟩
theorem scopeFinds_any (p : Pr) (s : ByteArray) (w : World) (hp : PrOk w p) :
    Calls Try.prog 4 ([.agg p.cs, .string s] : List Value).toArray w fun e w' => e = .returned (.bool true) ∧ Below w.heap.size w w' := by
  have hB := Below.refl w.heap.size w
  refine At.enter (N := 195) Try.func4 rfl rfl (by simp) [(0, .agg p.cs), (1, .string s)] (by simp) ?_
  refine At.seq ?_
  refine At.region ?_
  refine At.box rfl rfl (fun b1 w1 F1 => ?_)
  have gb1 := F1.ge hB
  have hb1 : w1.heap[b1]? = some (.cells p.cs 35) := F1.new
  replace hB := F1.below' hB
  refine At.assign rfl rfl ?_
  refine At.ops0 ?_
  refine At.thenN ?_
  refine At.seq ?_
  refine At.region ?_
  refine At.call en10 rfl rfl (shown_any _) (fun e w2 hR => ?_)
  obtain ⟨rfl, hbl1⟩ := hR
  refine ⟨_, rfl, ?_⟩
  replace hb1 := Below.old hbl1 hb1
  replace hB := Below.andThen hB hbl1
  refine At.assign rfl rfl ?_
  refine At.ops0 ?_
  refine At.thenN ?_
  refine At.seq ?_
  refine At.seq ?_
  refine At.region ?_
  refine At.load rfl (Ld.own ag35 (sz35.trans (congrArg some (hp).size.symm)) hb1) rfl ?_
  refine At.call en11 rfl rfl (large_any p _ ((hp).keep hB)) (fun e w3 hR => ?_)
  obtain ⟨rfl, hbl2⟩ := hR
  refine ⟨_, rfl, ?_⟩
  replace hb1 := Below.old hbl2 hb1
  replace hB := Below.andThen hB hbl2
  refine At.ops0 ?_
  refine At.thenN ?_
  refine At.cond (b := (largeB p)) rfl (fun hc1 => ?_) (fun hc1 => ?_)
  · skip
    refine At.seq ?_
    refine At.region ?_
    refine At.move rfl rfl ?_
    refine At.assign rfl rfl ?_
    refine At.ops0 ?_
    refine At.thenN ?_
    refine At.retc ?_
    refine At.thenR ?_
    refine At.doneR (ResV.tmp rfl ResV.nil) ?_
    exact ⟨rfl, hB⟩
  · skip
    refine At.skip ?_
    refine At.thenN ?_
    refine At.seq ?_
    refine At.region ?_
    refine At.load rfl (Ld.own ag35 (sz35.trans (congrArg some (hp).size.symm)) hb1) rfl ?_
    refine At.move rfl rfl ?_
    refine At.call en14 rfl rfl (effect_any p s _ ((hp).keep hB) (hp).hl (hp).ho (hp).hc) (fun e w4 hR => ?_)
    obtain ⟨rfl, hbl3⟩ := hR
    refine ⟨_, rfl, ?_⟩
    replace hb1 := Below.old hbl3 hb1
    replace hB := Below.andThen hB hbl3
    refine At.move rfl rfl ?_
    refine At.extract rfl rfl rfl ?_
    refine At.extract rfl rfl rfl ?_
    refine At.extract rfl rfl rfl ?_
    refine At.alloc ze43 rfl (fun b2 w5 F2 => ?_)
    have n_b1_b2 : b1 ≠ b2 := Nat.ne_of_lt (F2.lt hb1)
    have gb2 := F2.ge hB
    replace hb1 := F2.old hb1
    have hb2 : w5.heap[b2]? = some (.cells #[.string (⟨#[]⟩ : ByteArray), (.slice none 0 0)] 43) := F2.new
    replace hB := F2.below' hB
    refine At.alloc ze45 rfl (fun b3 w6 F3 => ?_)
    have n_b1_b3 : b1 ≠ b3 := Nat.ne_of_lt (F3.lt hb1)
    have n_b2_b3 : b2 ≠ b3 := Nat.ne_of_lt (F3.lt hb2)
    have gb3 := F3.ge hB
    replace hb1 := F3.old hb1
    replace hb2 := F3.old hb2
    have hb3 : w6.heap[b3]? = some (.cells #[.string (⟨#[]⟩ : ByteArray), .int .i64 0, .string (⟨#[]⟩ : ByteArray), .int .i64 0, (.slice none 0 0), (.slice none 0 0), .int .i64 0, .int .i64 0, .string (⟨#[]⟩ : ByteArray), .int .i64 0, (.slice none 0 0), (.slice none 0 0), .int .i64 0] 45) := F3.new
    replace hB := F3.below' hB
    refine At.storeAll rfl rfl hb2 (sz43.trans (congrArg some ((effE_ok hp s)).size.symm)) ((effE_ok hp s)).size.symm ((effE_ok hp s)).one (fun w7 S1 => ?_)
    replace hb1 := S1.other hb1 n_b1_b2
    replace hb3 := S1.other hb3 n_b2_b3.symm
    replace hb2 : w7.heap[b2]? = some (.cells (effE (findEff p.effs s)).cs 43) := S1.new
    replace hB := S1.below' hB gb2
    refine At.storeAll rfl rfl hb3 (sz45.trans (congrArg some ((opE_ok hp s)).size.symm)) ((opE_ok hp s)).size.symm ((opE_ok hp s)).one (fun w8 S2 => ?_)
    replace hb1 := S2.other hb1 n_b1_b3
    replace hb2 := S2.other hb2 n_b2_b3
    replace hb3 : w8.heap[b3]? = some (.cells (opE (findEff p.effs s)).cs 45) := S2.new
    replace hB := S2.below' hB gb3
    refine At.assign rfl rfl ?_
    refine At.ops0 ?_
    refine At.thenN ?_
    refine At.seq ?_
    refine At.region ?_
    refine At.load rfl (Ld.own ag35 (sz35.trans (congrArg some (hp).size.symm)) hb1) rfl ?_
    refine At.move rfl rfl ?_
    refine At.call en15 rfl rfl (refEffect_any p s _ ((hp).keep hB) (hp).hl (hp).ho (hp).hc) (fun e w9 hR => ?_)
    obtain ⟨rfl, hbl4⟩ := hR
    refine ⟨_, rfl, ?_⟩
    replace hb1 := Below.old hbl4 hb1
    replace hb2 := Below.old hbl4 hb2
    replace hb3 := Below.old hbl4 hb3
    replace hB := Below.andThen hB hbl4
    refine At.move rfl rfl ?_
    refine At.extract rfl rfl rfl ?_
    refine At.extract rfl rfl rfl ?_
    refine At.extract rfl rfl rfl ?_
    refine At.alloc ze43 rfl (fun b4 w10 F4 => ?_)
    have n_b1_b4 : b1 ≠ b4 := Nat.ne_of_lt (F4.lt hb1)
    have n_b2_b4 : b2 ≠ b4 := Nat.ne_of_lt (F4.lt hb2)
    have n_b3_b4 : b3 ≠ b4 := Nat.ne_of_lt (F4.lt hb3)
    have gb4 := F4.ge hB
    replace hb1 := F4.old hb1
    replace hb2 := F4.old hb2
    replace hb3 := F4.old hb3
    have hb4 : w10.heap[b4]? = some (.cells #[.string (⟨#[]⟩ : ByteArray), (.slice none 0 0)] 43) := F4.new
    replace hB := F4.below' hB
    refine At.alloc ze45 rfl (fun b5 w11 F5 => ?_)
    have n_b1_b5 : b1 ≠ b5 := Nat.ne_of_lt (F5.lt hb1)
    have n_b2_b5 : b2 ≠ b5 := Nat.ne_of_lt (F5.lt hb2)
    have n_b3_b5 : b3 ≠ b5 := Nat.ne_of_lt (F5.lt hb3)
    have n_b4_b5 : b4 ≠ b5 := Nat.ne_of_lt (F5.lt hb4)
    have gb5 := F5.ge hB
    replace hb1 := F5.old hb1
    replace hb2 := F5.old hb2
    replace hb3 := F5.old hb3
    replace hb4 := F5.old hb4
    have hb5 : w11.heap[b5]? = some (.cells #[.string (⟨#[]⟩ : ByteArray), .int .i64 0, .string (⟨#[]⟩ : ByteArray), .int .i64 0, (.slice none 0 0), (.slice none 0 0), .int .i64 0, .int .i64 0, .string (⟨#[]⟩ : ByteArray), .int .i64 0, (.slice none 0 0), (.slice none 0 0), .int .i64 0] 45) := F5.new
    replace hB := F5.below' hB
    refine At.storeAll rfl rfl hb4 (sz43.trans (congrArg some ((effE_ok hp s)).size.symm)) ((effE_ok hp s)).size.symm ((effE_ok hp s)).one (fun w12 S3 => ?_)
    replace hb1 := S3.other hb1 n_b1_b4
    replace hb2 := S3.other hb2 n_b2_b4
    replace hb3 := S3.other hb3 n_b3_b4
    replace hb5 := S3.other hb5 n_b4_b5.symm
    replace hb4 : w12.heap[b4]? = some (.cells (effE (findEff p.effs s)).cs 43) := S3.new
    replace hB := S3.below' hB gb4
    refine At.storeAll rfl rfl hb5 (sz45.trans (congrArg some ((opE_ok hp s)).size.symm)) ((opE_ok hp s)).size.symm ((opE_ok hp s)).one (fun w13 S4 => ?_)
    replace hb1 := S4.other hb1 n_b1_b5
    replace hb2 := S4.other hb2 n_b2_b5
    replace hb3 := S4.other hb3 n_b3_b5
    replace hb4 := S4.other hb4 n_b4_b5
    replace hb5 : w13.heap[b5]? = some (.cells (opE (findEff p.effs s)).cs 45) := S4.new
    replace hB := S4.below' hB gb5
    refine At.assign rfl rfl ?_
    refine At.ops0 ?_
    refine At.thenN ?_
    refine At.seq ?_
    refine At.region ?_
    refine At.load rfl (Ld.own ag35 (sz35.trans (congrArg some (hp).size.symm)) hb1) rfl ?_
    refine At.move rfl rfl ?_
    refine At.call en16 rfl rfl (handled_any p s _ ((hp).keep hB) (hp).hl.1) (fun e w14 hR => ?_)
    obtain ⟨rfl, hbl5⟩ := hR
    refine ⟨_, rfl, ?_⟩
    replace hb1 := Below.old hbl5 hb1
    replace hb2 := Below.old hbl5 hb2
    replace hb3 := Below.old hbl5 hb3
    replace hb4 := Below.old hbl5 hb4
    replace hb5 := Below.old hbl5 hb5
    replace hB := Below.andThen hB hbl5
    refine At.move rfl rfl ?_
    refine At.extract rfl rfl rfl ?_
    refine At.extract rfl rfl rfl ?_
    refine At.alloc ze43 rfl (fun b6 w15 F6 => ?_)
    have n_b1_b6 : b1 ≠ b6 := Nat.ne_of_lt (F6.lt hb1)
    have n_b2_b6 : b2 ≠ b6 := Nat.ne_of_lt (F6.lt hb2)
    have n_b3_b6 : b3 ≠ b6 := Nat.ne_of_lt (F6.lt hb3)
    have n_b4_b6 : b4 ≠ b6 := Nat.ne_of_lt (F6.lt hb4)
    have n_b5_b6 : b5 ≠ b6 := Nat.ne_of_lt (F6.lt hb5)
    have gb6 := F6.ge hB
    replace hb1 := F6.old hb1
    replace hb2 := F6.old hb2
    replace hb3 := F6.old hb3
    replace hb4 := F6.old hb4
    replace hb5 := F6.old hb5
    have hb6 : w15.heap[b6]? = some (.cells #[.string (⟨#[]⟩ : ByteArray), (.slice none 0 0)] 43) := F6.new
    replace hB := F6.below' hB
    refine At.storeAll rfl rfl hb6 (sz43.trans (congrArg some ((hdE_ok hp s)).size.symm)) ((hdE_ok hp s)).size.symm ((hdE_ok hp s)).one (fun w16 S5 => ?_)
    replace hb1 := S5.other hb1 n_b1_b6
    replace hb2 := S5.other hb2 n_b2_b6
    replace hb3 := S5.other hb3 n_b3_b6
    replace hb4 := S5.other hb4 n_b4_b6
    replace hb5 := S5.other hb5 n_b5_b6
    replace hb6 : w16.heap[b6]? = some (.cells (hdE (findHd p.effs s)).cs 43) := S5.new
    replace hB := S5.below' hB gb6
    refine At.assign rfl rfl ?_
    refine At.ops0 ?_
    refine At.thenN ?_
    refine At.seq ?_
    refine At.region ?_
    refine At.load rfl (Ld.own ag35 (sz35.trans (congrArg some (hp).size.symm)) hb1) rfl ?_
    refine At.move rfl rfl ?_
    refine At.call en17 rfl rfl (refHandled_any p s _ ((hp).keep hB) (hp).hl.1) (fun e w17 hR => ?_)
    obtain ⟨rfl, hbl6⟩ := hR
    refine ⟨_, rfl, ?_⟩
    replace hb1 := Below.old hbl6 hb1
    replace hb2 := Below.old hbl6 hb2
    replace hb3 := Below.old hbl6 hb3
    replace hb4 := Below.old hbl6 hb4
    replace hb5 := Below.old hbl6 hb5
    replace hb6 := Below.old hbl6 hb6
    replace hB := Below.andThen hB hbl6
    refine At.move rfl rfl ?_
    refine At.extract rfl rfl rfl ?_
    refine At.extract rfl rfl rfl ?_
    refine At.alloc ze43 rfl (fun b7 w18 F7 => ?_)
    have n_b1_b7 : b1 ≠ b7 := Nat.ne_of_lt (F7.lt hb1)
    have n_b2_b7 : b2 ≠ b7 := Nat.ne_of_lt (F7.lt hb2)
    have n_b3_b7 : b3 ≠ b7 := Nat.ne_of_lt (F7.lt hb3)
    have n_b4_b7 : b4 ≠ b7 := Nat.ne_of_lt (F7.lt hb4)
    have n_b5_b7 : b5 ≠ b7 := Nat.ne_of_lt (F7.lt hb5)
    have n_b6_b7 : b6 ≠ b7 := Nat.ne_of_lt (F7.lt hb6)
    have gb7 := F7.ge hB
    replace hb1 := F7.old hb1
    replace hb2 := F7.old hb2
    replace hb3 := F7.old hb3
    replace hb4 := F7.old hb4
    replace hb5 := F7.old hb5
    replace hb6 := F7.old hb6
    have hb7 : w18.heap[b7]? = some (.cells #[.string (⟨#[]⟩ : ByteArray), (.slice none 0 0)] 43) := F7.new
    replace hB := F7.below' hB
    refine At.storeAll rfl rfl hb7 (sz43.trans (congrArg some ((hdE_ok hp s)).size.symm)) ((hdE_ok hp s)).size.symm ((hdE_ok hp s)).one (fun w19 S6 => ?_)
    replace hb1 := S6.other hb1 n_b1_b7
    replace hb2 := S6.other hb2 n_b2_b7
    replace hb3 := S6.other hb3 n_b3_b7
    replace hb4 := S6.other hb4 n_b4_b7
    replace hb5 := S6.other hb5 n_b5_b7
    replace hb6 := S6.other hb6 n_b6_b7
    replace hb7 : w19.heap[b7]? = some (.cells (hdE (findHd p.effs s)).cs 43) := S6.new
    replace hB := S6.below' hB gb7
    refine At.assign rfl rfl ?_
    refine At.ops0 ?_
    refine At.thenN ?_
    refine At.seq ?_
    refine At.region ?_
    refine At.load rfl (Ld.own ag35 (sz35.trans (congrArg some (hp).size.symm)) hb1) rfl ?_
    refine At.move rfl rfl ?_
    refine At.call en18 rfl rfl (con_any p s _ ((hp).keep hB) (hp).hl (hp).ho (hp).hc) (fun e w20 hR => ?_)
    obtain ⟨rfl, hbl7⟩ := hR
    refine ⟨_, rfl, ?_⟩
    replace hb1 := Below.old hbl7 hb1
    replace hb2 := Below.old hbl7 hb2
    replace hb3 := Below.old hbl7 hb3
    replace hb4 := Below.old hbl7 hb4
    replace hb5 := Below.old hbl7 hb5
    replace hb6 := Below.old hbl7 hb6
    replace hb7 := Below.old hbl7 hb7
    replace hB := Below.andThen hB hbl7
    refine At.move rfl rfl ?_
    refine At.extract rfl rfl rfl ?_
    refine At.extract rfl rfl rfl ?_
    refine At.extract rfl rfl rfl ?_
    refine At.alloc ze52 rfl (fun b8 w21 F8 => ?_)
    have n_b1_b8 : b1 ≠ b8 := Nat.ne_of_lt (F8.lt hb1)
    have n_b2_b8 : b2 ≠ b8 := Nat.ne_of_lt (F8.lt hb2)
    have n_b3_b8 : b3 ≠ b8 := Nat.ne_of_lt (F8.lt hb3)
    have n_b4_b8 : b4 ≠ b8 := Nat.ne_of_lt (F8.lt hb4)
    have n_b5_b8 : b5 ≠ b8 := Nat.ne_of_lt (F8.lt hb5)
    have n_b6_b8 : b6 ≠ b8 := Nat.ne_of_lt (F8.lt hb6)
    have n_b7_b8 : b7 ≠ b8 := Nat.ne_of_lt (F8.lt hb7)
    have gb8 := F8.ge hB
    replace hb1 := F8.old hb1
    replace hb2 := F8.old hb2
    replace hb3 := F8.old hb3
    replace hb4 := F8.old hb4
    replace hb5 := F8.old hb5
    replace hb6 := F8.old hb6
    replace hb7 := F8.old hb7
    have hb8 : w21.heap[b8]? = some (.cells #[.string (⟨#[]⟩ : ByteArray), (.slice none 0 0)] 52) := F8.new
    replace hB := F8.below' hB
    refine At.alloc ze54 rfl (fun b9 w22 F9 => ?_)
    have n_b1_b9 : b1 ≠ b9 := Nat.ne_of_lt (F9.lt hb1)
    have n_b2_b9 : b2 ≠ b9 := Nat.ne_of_lt (F9.lt hb2)
    have n_b3_b9 : b3 ≠ b9 := Nat.ne_of_lt (F9.lt hb3)
    have n_b4_b9 : b4 ≠ b9 := Nat.ne_of_lt (F9.lt hb4)
    have n_b5_b9 : b5 ≠ b9 := Nat.ne_of_lt (F9.lt hb5)
    have n_b6_b9 : b6 ≠ b9 := Nat.ne_of_lt (F9.lt hb6)
    have n_b7_b9 : b7 ≠ b9 := Nat.ne_of_lt (F9.lt hb7)
    have n_b8_b9 : b8 ≠ b9 := Nat.ne_of_lt (F9.lt hb8)
    have gb9 := F9.ge hB
    replace hb1 := F9.old hb1
    replace hb2 := F9.old hb2
    replace hb3 := F9.old hb3
    replace hb4 := F9.old hb4
    replace hb5 := F9.old hb5
    replace hb6 := F9.old hb6
    replace hb7 := F9.old hb7
    replace hb8 := F9.old hb8
    have hb9 : w22.heap[b9]? = some (.cells #[.string (⟨#[]⟩ : ByteArray), (.slice none 0 0)] 54) := F9.new
    replace hB := F9.below' hB
    refine At.storeAll rfl rfl hb8 (sz52.trans (congrArg some ((datE_ok hp s)).size.symm)) ((datE_ok hp s)).size.symm ((datE_ok hp s)).one (fun w23 S7 => ?_)
    replace hb1 := S7.other hb1 n_b1_b8
    replace hb2 := S7.other hb2 n_b2_b8
    replace hb3 := S7.other hb3 n_b3_b8
    replace hb4 := S7.other hb4 n_b4_b8
    replace hb5 := S7.other hb5 n_b5_b8
    replace hb6 := S7.other hb6 n_b6_b8
    replace hb7 := S7.other hb7 n_b7_b8
    replace hb9 := S7.other hb9 n_b8_b9.symm
    replace hb8 : w23.heap[b8]? = some (.cells (datE (findCon p.dats s)).cs 52) := S7.new
    replace hB := S7.below' hB gb8
    refine At.storeAll rfl rfl hb9 (sz54.trans (congrArg some ((cnE_ok hp s)).size.symm)) ((cnE_ok hp s)).size.symm ((cnE_ok hp s)).one (fun w24 S8 => ?_)
    replace hb1 := S8.other hb1 n_b1_b9
    replace hb2 := S8.other hb2 n_b2_b9
    replace hb3 := S8.other hb3 n_b3_b9
    replace hb4 := S8.other hb4 n_b4_b9
    replace hb5 := S8.other hb5 n_b5_b9
    replace hb6 := S8.other hb6 n_b6_b9
    replace hb7 := S8.other hb7 n_b7_b9
    replace hb8 := S8.other hb8 n_b8_b9
    replace hb9 : w24.heap[b9]? = some (.cells (cnE (findCon p.dats s)).cs 54) := S8.new
    replace hB := S8.below' hB gb9
    refine At.assign rfl rfl ?_
    refine At.ops0 ?_
    refine At.thenN ?_
    refine At.seq ?_
    refine At.region ?_
    refine At.load rfl (Ld.own ag35 (sz35.trans (congrArg some (hp).size.symm)) hb1) rfl ?_
    refine At.move rfl rfl ?_
    refine At.call en19 rfl rfl (refCon_any p s _ ((hp).keep hB) (hp).hl (hp).ho (hp).hc) (fun e w25 hR => ?_)
    obtain ⟨rfl, hbl8⟩ := hR
    refine ⟨_, rfl, ?_⟩
    replace hb1 := Below.old hbl8 hb1
    replace hb2 := Below.old hbl8 hb2
    replace hb3 := Below.old hbl8 hb3
    replace hb4 := Below.old hbl8 hb4
    replace hb5 := Below.old hbl8 hb5
    replace hb6 := Below.old hbl8 hb6
    replace hb7 := Below.old hbl8 hb7
    replace hb8 := Below.old hbl8 hb8
    replace hb9 := Below.old hbl8 hb9
    replace hB := Below.andThen hB hbl8
    refine At.move rfl rfl ?_
    refine At.extract rfl rfl rfl ?_
    refine At.extract rfl rfl rfl ?_
    refine At.extract rfl rfl rfl ?_
    refine At.alloc ze52 rfl (fun b10 w26 F10 => ?_)
    have n_b1_b10 : b1 ≠ b10 := Nat.ne_of_lt (F10.lt hb1)
    have n_b2_b10 : b2 ≠ b10 := Nat.ne_of_lt (F10.lt hb2)
    have n_b3_b10 : b3 ≠ b10 := Nat.ne_of_lt (F10.lt hb3)
    have n_b4_b10 : b4 ≠ b10 := Nat.ne_of_lt (F10.lt hb4)
    have n_b5_b10 : b5 ≠ b10 := Nat.ne_of_lt (F10.lt hb5)
    have n_b6_b10 : b6 ≠ b10 := Nat.ne_of_lt (F10.lt hb6)
    have n_b7_b10 : b7 ≠ b10 := Nat.ne_of_lt (F10.lt hb7)
    have n_b8_b10 : b8 ≠ b10 := Nat.ne_of_lt (F10.lt hb8)
    have n_b9_b10 : b9 ≠ b10 := Nat.ne_of_lt (F10.lt hb9)
    have gb10 := F10.ge hB
    replace hb1 := F10.old hb1
    replace hb2 := F10.old hb2
    replace hb3 := F10.old hb3
    replace hb4 := F10.old hb4
    replace hb5 := F10.old hb5
    replace hb6 := F10.old hb6
    replace hb7 := F10.old hb7
    replace hb8 := F10.old hb8
    replace hb9 := F10.old hb9
    have hb10 : w26.heap[b10]? = some (.cells #[.string (⟨#[]⟩ : ByteArray), (.slice none 0 0)] 52) := F10.new
    replace hB := F10.below' hB
    refine At.alloc ze54 rfl (fun b11 w27 F11 => ?_)
    have n_b1_b11 : b1 ≠ b11 := Nat.ne_of_lt (F11.lt hb1)
    have n_b2_b11 : b2 ≠ b11 := Nat.ne_of_lt (F11.lt hb2)
    have n_b3_b11 : b3 ≠ b11 := Nat.ne_of_lt (F11.lt hb3)
    have n_b4_b11 : b4 ≠ b11 := Nat.ne_of_lt (F11.lt hb4)
    have n_b5_b11 : b5 ≠ b11 := Nat.ne_of_lt (F11.lt hb5)
    have n_b6_b11 : b6 ≠ b11 := Nat.ne_of_lt (F11.lt hb6)
    have n_b7_b11 : b7 ≠ b11 := Nat.ne_of_lt (F11.lt hb7)
    have n_b8_b11 : b8 ≠ b11 := Nat.ne_of_lt (F11.lt hb8)
    have n_b9_b11 : b9 ≠ b11 := Nat.ne_of_lt (F11.lt hb9)
    have n_b10_b11 : b10 ≠ b11 := Nat.ne_of_lt (F11.lt hb10)
    have gb11 := F11.ge hB
    replace hb1 := F11.old hb1
    replace hb2 := F11.old hb2
    replace hb3 := F11.old hb3
    replace hb4 := F11.old hb4
    replace hb5 := F11.old hb5
    replace hb6 := F11.old hb6
    replace hb7 := F11.old hb7
    replace hb8 := F11.old hb8
    replace hb9 := F11.old hb9
    replace hb10 := F11.old hb10
    have hb11 : w27.heap[b11]? = some (.cells #[.string (⟨#[]⟩ : ByteArray), (.slice none 0 0)] 54) := F11.new
    replace hB := F11.below' hB
    refine At.storeAll rfl rfl hb10 (sz52.trans (congrArg some ((datE_ok hp s)).size.symm)) ((datE_ok hp s)).size.symm ((datE_ok hp s)).one (fun w28 S9 => ?_)
    replace hb1 := S9.other hb1 n_b1_b10
    replace hb2 := S9.other hb2 n_b2_b10
    replace hb3 := S9.other hb3 n_b3_b10
    replace hb4 := S9.other hb4 n_b4_b10
    replace hb5 := S9.other hb5 n_b5_b10
    replace hb6 := S9.other hb6 n_b6_b10
    replace hb7 := S9.other hb7 n_b7_b10
    replace hb8 := S9.other hb8 n_b8_b10
    replace hb9 := S9.other hb9 n_b9_b10
    replace hb11 := S9.other hb11 n_b10_b11.symm
    replace hb10 : w28.heap[b10]? = some (.cells (datE (findCon p.dats s)).cs 52) := S9.new
    replace hB := S9.below' hB gb10
    refine At.storeAll rfl rfl hb11 (sz54.trans (congrArg some ((cnE_ok hp s)).size.symm)) ((cnE_ok hp s)).size.symm ((cnE_ok hp s)).one (fun w29 S10 => ?_)
    replace hb1 := S10.other hb1 n_b1_b11
    replace hb2 := S10.other hb2 n_b2_b11
    replace hb3 := S10.other hb3 n_b3_b11
    replace hb4 := S10.other hb4 n_b4_b11
    replace hb5 := S10.other hb5 n_b5_b11
    replace hb6 := S10.other hb6 n_b6_b11
    replace hb7 := S10.other hb7 n_b7_b11
    replace hb8 := S10.other hb8 n_b8_b11
    replace hb9 := S10.other hb9 n_b9_b11
    replace hb10 := S10.other hb10 n_b10_b11
    replace hb11 : w29.heap[b11]? = some (.cells (cnE (findCon p.dats s)).cs 54) := S10.new
    replace hB := S10.below' hB gb11
    refine At.assign rfl rfl ?_
    refine At.ops0 ?_
    refine At.thenN ?_
    refine At.seq ?_
    refine At.region ?_
    refine At.move rfl rfl ?_
    refine At.call en20 rfl rfl (prims_any s _) (fun e w' hR => ?_)
    obtain ⟨rfl, rfl⟩ := hR
    refine ⟨_, rfl, ?_⟩
    refine At.move rfl rfl ?_
    refine At.extract rfl rfl rfl ?_
    refine At.extract rfl rfl rfl ?_
    refine At.assign rfl rfl ?_
    refine At.assign rfl rfl ?_
    refine At.ops0 ?_
    refine At.thenN ?_
    refine At.seq ?_
    refine At.region ?_
    refine At.move rfl rfl ?_
    refine At.call en21 rfl rfl (refPrims_any s _) (fun e w' hR => ?_)
    obtain ⟨rfl, rfl⟩ := hR
    refine ⟨_, rfl, ?_⟩
    refine At.move rfl rfl ?_
    refine At.extract rfl rfl rfl ?_
    refine At.extract rfl rfl rfl ?_
    refine At.assign rfl rfl ?_
    refine At.assign rfl rfl ?_
    refine At.ops0 ?_
    refine At.thenN ?_
    refine At.seq ?_
    refine At.region ?_
    refine At.move rfl rfl ?_
    refine At.move rfl rfl ?_
    refine At.yes rfl rfl rfl rfl ?_
    refine At.move rfl rfl ?_
    refine At.yes rfl rfl rfl rfl ?_
    refine At.move rfl rfl ?_
    refine At.yes rfl rfl rfl rfl ?_
    refine At.eqB rfl rfl bo4 rfl ?_
    refine At.set (d := 84) (u := .bool true) rfl (congrArg Value.bool (by simp)) ?_
    refine At.pickT rfl rfl rfl ?_
    refine At.move rfl rfl ?_
    refine At.yes rfl rfl rfl rfl ?_
    refine At.fieldAddr rfl fo43_0 rfl ?_
    refine At.yes rfl rfl rfl rfl ?_
    refine At.load rfl (Ld.ownCell ag9 hb2 ((effE_ok hp s)).c0) rfl ?_
    refine At.yes rfl rfl rfl rfl ?_
    refine At.fieldAddr rfl fo43_0 rfl ?_
    refine At.yes rfl rfl rfl rfl ?_
    refine At.load rfl (Ld.ownCell ag9 hb4 ((effE_ok hp s)).c0) rfl ?_
    refine At.yes rfl rfl rfl rfl ?_
    refine At.eqS rfl rfl rfl ?_
    refine At.set (d := 91) (u := .bool true) rfl (congrArg Value.bool (by simp)) ?_
    refine At.pickT rfl rfl rfl ?_
    refine At.move rfl rfl ?_
    refine At.yes rfl rfl rfl rfl ?_
    refine At.fieldAddr rfl fo43_1 rfl ?_
    refine At.yes rfl rfl rfl rfl ?_
    refine At.load rfl (Ld.ownCell ag41 hb2 ((effE_ok hp s)).c1) rfl ?_
    refine At.yes rfl rfl rfl rfl ?_
    refine At.lenSl rfl (((effE_ok hp s)).opsAt).okL el41 rfl ?_
    refine At.yes rfl rfl rfl rfl ?_
    refine At.fieldAddr rfl fo43_1 rfl ?_
    refine At.yes rfl rfl rfl rfl ?_
    refine At.load rfl (Ld.ownCell ag41 hb4 ((effE_ok hp s)).c1) rfl ?_
    refine At.yes rfl rfl rfl rfl ?_
    refine At.lenSl rfl (((effE_ok hp s)).opsAt).okL el41 rfl ?_
    refine At.yes rfl rfl rfl rfl ?_
    refine At.eqI rfl rfl rfl ?_
    refine At.set (d := 100) (u := .bool true) rfl (congrArg Value.bool (by simp)) ?_
    refine At.pickT rfl rfl rfl ?_
    refine At.move rfl rfl ?_
    refine At.yes rfl rfl rfl rfl ?_
    refine At.fieldAddr rfl fo45_0 rfl ?_
    refine At.yes rfl rfl rfl rfl ?_
    refine At.load rfl (Ld.ownCell ag9 hb3 ((opE_ok hp s)).c0) rfl ?_
    refine At.yes rfl rfl rfl rfl ?_
    refine At.fieldAddr rfl fo45_0 rfl ?_
    refine At.yes rfl rfl rfl rfl ?_
    refine At.load rfl (Ld.ownCell ag9 hb5 ((opE_ok hp s)).c0) rfl ?_
    refine At.yes rfl rfl rfl rfl ?_
    refine At.eqS rfl rfl rfl ?_
    refine At.set (d := 107) (u := .bool true) rfl (congrArg Value.bool (by simp)) ?_
    refine At.pickT rfl rfl rfl ?_
    refine At.move rfl rfl ?_
    refine At.yes rfl rfl rfl rfl ?_
    refine At.fieldAddr rfl fo45_1 rfl ?_
    refine At.yes rfl rfl rfl rfl ?_
    refine At.fieldAddr rfl fo31_0 rfl ?_
    refine At.yes rfl rfl rfl rfl ?_
    refine At.load rfl (Ld.ownCell ag3 hb3 (sub_cell ((opE_ok hp s)).argCs (((opE_ok hp s)).argOk).c0)) rfl ?_
    refine At.yes rfl rfl rfl rfl ?_
    refine At.fieldAddr rfl fo45_1 rfl ?_
    refine At.yes rfl rfl rfl rfl ?_
    refine At.fieldAddr rfl fo31_0 rfl ?_
    refine At.yes rfl rfl rfl rfl ?_
    refine At.load rfl (Ld.ownCell ag3 hb5 (sub_cell ((opE_ok hp s)).argCs (((opE_ok hp s)).argOk).c0)) rfl ?_
    refine At.yes rfl rfl rfl rfl ?_
    refine At.eqI rfl rfl rfl ?_
    refine At.set (d := 116) (u := .bool true) rfl (congrArg Value.bool (by simp)) ?_
    refine At.pickT rfl rfl rfl ?_
    refine At.move rfl rfl ?_
    refine At.yes rfl rfl rfl rfl ?_
    refine At.fieldAddr rfl fo45_2 rfl ?_
    refine At.yes rfl rfl rfl rfl ?_
    refine At.fieldAddr rfl fo31_0 rfl ?_
    refine At.yes rfl rfl rfl rfl ?_
    refine At.load rfl (Ld.ownCell ag3 hb3 (sub_cell ((opE_ok hp s)).resCs (((opE_ok hp s)).resOk).c0)) rfl ?_
    refine At.yes rfl rfl rfl rfl ?_
    refine At.fieldAddr rfl fo45_2 rfl ?_
    refine At.yes rfl rfl rfl rfl ?_
    refine At.fieldAddr rfl fo31_0 rfl ?_
    refine At.yes rfl rfl rfl rfl ?_
    refine At.load rfl (Ld.ownCell ag3 hb5 (sub_cell ((opE_ok hp s)).resCs (((opE_ok hp s)).resOk).c0)) rfl ?_
    refine At.yes rfl rfl rfl rfl ?_
    refine At.eqI rfl rfl rfl ?_
    refine At.set (d := 125) (u := .bool true) rfl (congrArg Value.bool (by simp)) ?_
    refine At.pickT rfl rfl rfl ?_
    refine At.move rfl rfl ?_
    refine At.yes rfl rfl rfl rfl ?_
    refine At.move rfl rfl ?_
    refine At.yes rfl rfl rfl rfl ?_
    refine At.move rfl rfl ?_
    refine At.yes rfl rfl rfl rfl ?_
    refine At.eqB rfl rfl bo4 rfl ?_
    refine At.set (d := 130) (u := .bool true) rfl (congrArg Value.bool (by simp)) ?_
    refine At.pickT rfl rfl rfl ?_
    refine At.move rfl rfl ?_
    refine At.yes rfl rfl rfl rfl ?_
    refine At.fieldAddr rfl fo43_0 rfl ?_
    refine At.yes rfl rfl rfl rfl ?_
    refine At.load rfl (Ld.ownCell ag9 hb6 ((hdE_ok hp s)).c0) rfl ?_
    refine At.yes rfl rfl rfl rfl ?_
    refine At.fieldAddr rfl fo43_0 rfl ?_
    refine At.yes rfl rfl rfl rfl ?_
    refine At.load rfl (Ld.ownCell ag9 hb7 ((hdE_ok hp s)).c0) rfl ?_
    refine At.yes rfl rfl rfl rfl ?_
    refine At.eqS rfl rfl rfl ?_
    refine At.set (d := 137) (u := .bool true) rfl (congrArg Value.bool (by simp)) ?_
    refine At.pickT rfl rfl rfl ?_
    refine At.move rfl rfl ?_
    refine At.yes rfl rfl rfl rfl ?_
    refine At.fieldAddr rfl fo43_1 rfl ?_
    refine At.yes rfl rfl rfl rfl ?_
    refine At.load rfl (Ld.ownCell ag41 hb6 ((hdE_ok hp s)).c1) rfl ?_
    refine At.yes rfl rfl rfl rfl ?_
    refine At.lenSl rfl (((hdE_ok hp s)).opsAt).okL el41 rfl ?_
    refine At.yes rfl rfl rfl rfl ?_
    refine At.fieldAddr rfl fo43_1 rfl ?_
    refine At.yes rfl rfl rfl rfl ?_
    refine At.load rfl (Ld.ownCell ag41 hb7 ((hdE_ok hp s)).c1) rfl ?_
    refine At.yes rfl rfl rfl rfl ?_
    refine At.lenSl rfl (((hdE_ok hp s)).opsAt).okL el41 rfl ?_
    refine At.yes rfl rfl rfl rfl ?_
    refine At.eqI rfl rfl rfl ?_
    refine At.set (d := 146) (u := .bool true) rfl (congrArg Value.bool (by simp)) ?_
    refine At.pickT rfl rfl rfl ?_
    refine At.move rfl rfl ?_
    refine At.yes rfl rfl rfl rfl ?_
    refine At.move rfl rfl ?_
    refine At.yes rfl rfl rfl rfl ?_
    refine At.move rfl rfl ?_
    refine At.yes rfl rfl rfl rfl ?_
    refine At.eqB rfl rfl bo4 rfl ?_
    refine At.set (d := 151) (u := .bool true) rfl (congrArg Value.bool (by simp)) ?_
    refine At.pickT rfl rfl rfl ?_
    refine At.move rfl rfl ?_
    refine At.yes rfl rfl rfl rfl ?_
    refine At.fieldAddr rfl fo52_0 rfl ?_
    refine At.yes rfl rfl rfl rfl ?_
    refine At.load rfl (Ld.ownCell ag9 hb8 ((datE_ok hp s)).c0) rfl ?_
    refine At.yes rfl rfl rfl rfl ?_
    refine At.fieldAddr rfl fo52_0 rfl ?_
    refine At.yes rfl rfl rfl rfl ?_
    refine At.load rfl (Ld.ownCell ag9 hb10 ((datE_ok hp s)).c0) rfl ?_
    refine At.yes rfl rfl rfl rfl ?_
    refine At.eqS rfl rfl rfl ?_
    refine At.set (d := 158) (u := .bool true) rfl (congrArg Value.bool (by simp)) ?_
    refine At.pickT rfl rfl rfl ?_
    refine At.move rfl rfl ?_
    refine At.yes rfl rfl rfl rfl ?_
    refine At.fieldAddr rfl fo52_1 rfl ?_
    refine At.yes rfl rfl rfl rfl ?_
    refine At.load rfl (Ld.ownCell ag50 hb8 ((datE_ok hp s)).c1) rfl ?_
    refine At.yes rfl rfl rfl rfl ?_
    refine At.lenSl rfl (((datE_ok hp s)).consAt).okL el50 rfl ?_
    refine At.yes rfl rfl rfl rfl ?_
    refine At.fieldAddr rfl fo52_1 rfl ?_
    refine At.yes rfl rfl rfl rfl ?_
    refine At.load rfl (Ld.ownCell ag50 hb10 ((datE_ok hp s)).c1) rfl ?_
    refine At.yes rfl rfl rfl rfl ?_
    refine At.lenSl rfl (((datE_ok hp s)).consAt).okL el50 rfl ?_
    refine At.yes rfl rfl rfl rfl ?_
    refine At.eqI rfl rfl rfl ?_
    refine At.set (d := 167) (u := .bool true) rfl (congrArg Value.bool (by simp)) ?_
    refine At.pickT rfl rfl rfl ?_
    refine At.move rfl rfl ?_
    refine At.yes rfl rfl rfl rfl ?_
    refine At.fieldAddr rfl fo54_0 rfl ?_
    refine At.yes rfl rfl rfl rfl ?_
    refine At.load rfl (Ld.ownCell ag9 hb9 ((cnE_ok hp s)).c0) rfl ?_
    refine At.yes rfl rfl rfl rfl ?_
    refine At.fieldAddr rfl fo54_0 rfl ?_
    refine At.yes rfl rfl rfl rfl ?_
    refine At.load rfl (Ld.ownCell ag9 hb11 ((cnE_ok hp s)).c0) rfl ?_
    refine At.yes rfl rfl rfl rfl ?_
    refine At.eqS rfl rfl rfl ?_
    refine At.set (d := 174) (u := .bool true) rfl (congrArg Value.bool (by simp)) ?_
    refine At.pickT rfl rfl rfl ?_
    refine At.move rfl rfl ?_
    refine At.yes rfl rfl rfl rfl ?_
    refine At.fieldAddr rfl fo54_1 rfl ?_
    refine At.yes rfl rfl rfl rfl ?_
    refine At.load rfl (Ld.ownCell ag26 hb9 ((cnE_ok hp s)).c1) rfl ?_
    refine At.yes rfl rfl rfl rfl ?_
    refine At.lenSl rfl (((cnE_ok hp s)).fieldsAt).okL el26 rfl ?_
    refine At.yes rfl rfl rfl rfl ?_
    refine At.fieldAddr rfl fo54_1 rfl ?_
    refine At.yes rfl rfl rfl rfl ?_
    refine At.load rfl (Ld.ownCell ag26 hb11 ((cnE_ok hp s)).c1) rfl ?_
    refine At.yes rfl rfl rfl rfl ?_
    refine At.lenSl rfl (((cnE_ok hp s)).fieldsAt).okL el26 rfl ?_
    refine At.yes rfl rfl rfl rfl ?_
    refine At.eqI rfl rfl rfl ?_
    refine At.set (d := 183) (u := .bool true) rfl (congrArg Value.bool (by simp)) ?_
    refine At.pickT rfl rfl rfl ?_
    refine At.move rfl rfl ?_
    refine At.yes rfl rfl rfl rfl ?_
    refine At.move rfl rfl ?_
    refine At.yes rfl rfl rfl rfl ?_
    refine At.move rfl rfl ?_
    refine At.yes rfl rfl rfl rfl ?_
    refine At.eqI rfl rfl rfl ?_
    refine At.set (d := 188) (u := .bool true) rfl (congrArg Value.bool (by simp)) ?_
    refine At.pickT rfl rfl rfl ?_
    refine At.move rfl rfl ?_
    refine At.yes rfl rfl rfl rfl ?_
    refine At.move rfl rfl ?_
    refine At.yes rfl rfl rfl rfl ?_
    refine At.move rfl rfl ?_
    refine At.yes rfl rfl rfl rfl ?_
    refine At.eqB rfl rfl bo4 rfl ?_
    refine At.set (d := 193) (u := .bool true) rfl (congrArg Value.bool (by simp)) ?_
    refine At.pickT rfl rfl rfl ?_
    refine At.assign rfl rfl ?_
    refine At.ops0 ?_
    refine At.thenN ?_
    refine At.retc ?_
    refine At.doneR (ResV.tmp rfl ResV.nil) ?_
    exact ⟨rfl, hB⟩
end Go.Proofs.Ytkclfcdppnlkbaa
