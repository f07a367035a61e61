/-
 The walk of Text. Written by a program of ours.
-/
import Derived.Test.YtkjmjnddanhapaaN32
import Derived.Test.YtkjmjnddanhapaaU10
set_option linter.unusedVariables false
set_option linter.unusedSimpArgs false
namespace Go.Proofs.Ytkjmjnddanhapaa
open Go.RowKit
theorem en40 : entB Try.prog 40 = true := by kernel_rfl
theorem text_any (v : Value) (l : List Tk) (w : World) (hv : RowsAt w v 4 (l.map Tk.cs)) (hn : l.length ≤ 1048576) (ht : ∀ t ∈ l, t.t.length ≤ 1048576) (hL : (textL l).length ≤ 1073741824) :
  Calls Try.prog 20 ([v] : List Value).toArray w fun e w' => e = .returned (.string (bs (textL l))) ∧ Below w.heap.size w w' := by
 have hB := Below.refl w.heap.size w
 refine At.enter (N := 27) Try.func20 rfl rfl (by simp) [(0, v)] (by simp) ?_
 refine .seq (.region (.assign rfl rfl (.ops0 (.thenN (.seq (.region (.assign rfl rfl (.ops0 (.thenN (.seq (.seq (.region (.move rfl rfl (.lenSl rfl hv.okL el43 rfl (.move rfl rfl (.ops0 (.thenN (.block ?_))))))))))))))))))
 refine At.loop (Nat × Value × List ByteArray) (fun (k, vw, lw) => [(3, vw), (7, v), (8, .int .i64 (l.length : Int)), (9, .int .i64 (k : Int))]) (fun (k, vw, lw) w1 => Below w.heap.size w w1 ∧ OwnS 9 w1 vw lw ∧ (∀ g, vw.ownBlock = some g → w.heap.size ≤ g) ∧ (k ≤ l.length) ∧ (lw = ((l.take k).map textW).map bs)) (fun (k, vw, lw) => l.length - k) (0, .slice none 0 0, []) (Sub.cons rfl (Sub.cons rfl (Sub.cons rfl (Sub.cons rfl Sub.nil)))) ⟨hB, OwnS.nil _ _, (fun g h => by cases h), (Nat.zero_le _), (rfl)⟩ (fun gh w1 hI => ?_)
 obtain ⟨k, vw, lw⟩ := gh
 clear hB
 obtain ⟨hB, hrW, gW, hkb, hlw⟩ := hI
 show At _ _ [(3, vw), (7, v), (8, .int .i64 (l.length : Int)), (9, .int .i64 (k : Int))] _ _
 have hlwl : lw.length = k := by rw [hlw]; simp; omega
 refine .seq (.region (.lss rfl rfl rfl (.ops0 (.thenN (.seq ?_)))))
 refine At.cond (b := decide ((k : Int) < (l.length : Int))) rfl (fun hc1 => ?_) (fun hc1 => ?_)
 ·skip
  have hc1' := of_decide_eq_true hc1
  refine .skip (.thenN (.seq (.block (.seq ?_))))
  obtain ⟨u, hu⟩ := some_of_lt (l := l) (i := k) (by omega)
  have hut := ht u (List.mem_of_getElem? hu)
  refine .region (.indexAddr (i := k) rfl rfl hv.okL (lt_of_some hu) el43 sz47 rfl (.load rfl (Ld.row ag47 (sz47.trans (congrArg some ((tk_ok u)).size.symm)) (((hv).row hu).keep hB)) rfl ?_))
  refine At.alloc ze47 rfl (fun b1 w2 F1 => ?_)
  have gb1 := F1.ge hB
  replace hrW := hrW.fresh F1
  have hb1 : w2.heap[b1]? = some (.cells #[zI, zS, zI, zI] 47) := F1.new
  replace hB := F1.below' hB
  refine At.storeAll rfl rfl hb1 (sz47.trans (congrArg some ((tk_ok u)).size.symm)) ((tk_ok u)).size.symm ((tk_ok u)).one (fun w3 S1 => ?_)
  replace hrW := hrW.set S1 (hrW.neT hb1 rfl)
  replace hb1 : w3.heap[b1]? = some (.cells u.cs 47) := S1.new
  replace hB := S1.below' hB gb1
  refine .ops0 (.thenN (.seq (.region (.fieldAddr rfl fo47_1 rfl (.load rfl (Ld.ownCell ag9 hb1 ((tk_ok u)).c1) rfl (.assign rfl rfl (.ops0 (.thenN (.seq (.seq (.region (.fieldAddr rfl fo47_0 rfl (.load rfl (Ld.ownCell ag3 hb1 ((tk_ok u)).c0) rfl (.eqI rfl rfl rfl (.ops0 (.thenN ?_))))))))))))))))
  refine At.cond (b := decide (u.k = 6)) rfl (fun hc2 => ?_) (fun hc2 => ?_)
  ·skip
   have hc2' := of_decide_eq_true hc2
   refine .region (.move rfl rfl (.catB (a := u.t) (b := ([33] : List UInt8)) rfl rfl rfl (by simp; omega) (.assign rfl rfl (.ops0 (.thenN (.region (.move rfl rfl (.move rfl rfl ?_))))))))
   refine At.buildSlice (xs := [.tmp 21]) rfl rfl el29 sz9 ze9 (by intro v hv; simp only [List.mem_cons, List.not_mem_nil, or_false] at hv; rcases hv with rfl <;> first | rfl | simp [Value.cells]) rfl (by decide) rfl (fun b2 w4 F2 => ?_)
   have q_hrW_b2 : some b2 ≠ Value.ownBlock vw := Own.neFresh hrW F2
   have n_b1_b2 : b1 ≠ b2 := Nat.ne_of_lt (F2.lt hb1)
   have gb2 := F2.ge hB
   replace hb1 := F2.old hb1
   replace hrW := hrW.fresh F2
   have hb2 : w4.heap[b2]? = some (.cells #[.string (bs (u.t ++ ([33] : List UInt8)))] 9) := F2.new
   replace hB := F2.below' hB
   refine At.appendS (ss := lw) rfl rfl el29 el29 sz9 by9 ze9 rfl hrW ((StrsAt.own (ss := [(bs (u.t ++ ([33] : List UInt8)))]) hb2 rfl (by decide) : StrsAt _ (.slice (some ⟨b2, 0, none⟩) 1 1) [(bs (u.t ++ ([33] : List UInt8)))])) (by first | omega | (simp; omega)) rfl (fun va1 w5 hO1 hA1 => ?_)
   replace hb1 := hA1.old hb1 (hrW.neT hb1 rfl)
   clear hb2
   have ghO1 := hA1.ge hB.size gW
   replace hB := hA1.below hB hB.size gW
   refine .assign rfl rfl (.ops0 (.inN (.thenN (.region (.addI rfl rfl rfl (by first | omega | (simp; omega)) (.move rfl rfl (.ops0 (.thenN ?_))))))))
   have hk6 := hc2; simp at hk6
   exact fun act_ hact_ => ⟨((k + 1), va1, (lw ++ [(bs (u.t ++ ([33] : List UInt8)))])), hact_.sub (Sub.cons rfl (Sub.cons rfl (Sub.cons rfl (Sub.cons rfl Sub.nil)))), ⟨hB, hO1, (ghO1), (by omega), (by rw [hlw, take_one hu, List.map_append, List.map_append]; simp [textW, hk6])⟩, by first | omega | (dsimp only; omega)⟩
  ·skip
   have hc2' := of_decide_eq_false hc2
   refine .skip (.thenN (.region (.move rfl rfl (.move rfl rfl ?_))))
   refine At.buildSlice (xs := [.tmp 21]) rfl rfl el29 sz9 ze9 (by intro v hv; simp only [List.mem_cons, List.not_mem_nil, or_false] at hv; rcases hv with rfl <;> first | rfl | simp [Value.cells]) rfl (by decide) rfl (fun b3 w6 F3 => ?_)
   have q_hrW_b3 : some b3 ≠ Value.ownBlock vw := Own.neFresh hrW F3
   have n_b1_b3 : b1 ≠ b3 := Nat.ne_of_lt (F3.lt hb1)
   have gb3 := F3.ge hB
   replace hb1 := F3.old hb1
   replace hrW := hrW.fresh F3
   have hb3 : w6.heap[b3]? = some (.cells #[.string (bs u.t)] 9) := F3.new
   replace hB := F3.below' hB
   refine At.appendS (ss := lw) rfl rfl el29 el29 sz9 by9 ze9 rfl hrW ((StrsAt.own (ss := [(bs u.t)]) hb3 rfl (by decide) : StrsAt _ (.slice (some ⟨b3, 0, none⟩) 1 1) [(bs u.t)])) (by first | omega | (simp; omega)) rfl (fun va2 w7 hO2 hA2 => ?_)
   replace hb1 := hA2.old hb1 (hrW.neT hb1 rfl)
   clear hb3
   have ghO2 := hA2.ge hB.size gW
   replace hB := hA2.below hB hB.size gW
   refine .assign rfl rfl (.ops0 (.inN (.thenN (.region (.addI rfl rfl rfl (by first | omega | (simp; omega)) (.move rfl rfl (.ops0 (.thenN ?_))))))))
   have hk6 := hc2; simp at hk6
   exact fun act_ hact_ => ⟨((k + 1), va2, (lw ++ [(bs u.t)])), hact_.sub (Sub.cons rfl (Sub.cons rfl (Sub.cons rfl (Sub.cons rfl Sub.nil)))), ⟨hB, hO2, (ghO2), (by omega), (by rw [hlw, take_one hu, List.map_append, List.map_append]; simp [textW, hk6])⟩, by first | omega | (dsimp only; omega)⟩
 ·skip
  have hc1' := of_decide_eq_false hc1
  refine .exit (.thenE (.thenE (.inE (.thenN (.seq (.region (.move rfl rfl ?_)))))))
  have hjs : StrsAt w1 vw ((l.map textW).map bs) := by have q := hrW.strs; rw [hlw, List.take_of_length_le (by omega)] at q; exact q
  refine At.call en40 rfl rfl (join_any vw (l.map textW) _ hjs (by simp; omega) (by unfold textL at hL; omega)) (fun e w8 hR => ?_)
  obtain ⟨rfl, hbl1⟩ := hR
  refine ⟨_, rfl, ?_⟩
  replace hrW := hrW.below hbl1
  replace hB := Below.andThen hB hbl1
  refine .assign rfl rfl (.ops0 (.thenN (.retc (.doneR (ResV.tmp rfl ResV.nil) ?_))))
  exact ⟨rfl, hB⟩
end Go.Proofs.Ytkjmjnddanhapaa
