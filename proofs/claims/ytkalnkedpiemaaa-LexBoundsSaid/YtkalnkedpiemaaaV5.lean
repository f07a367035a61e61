/-
  The walk of what every statement begins with. Written by a program of ours.
-/
import Derived.Test.YtkalnkedpiemaaaV4
import Derived.Test.YtkalnkedpiemaaaL6
set_option linter.unusedVariables false
set_option linter.unusedSimpArgs false
namespace Go.Proofs.Ytkalnkedpiemaaa
open Go.RowKit
theorem en11 : entB Try.prog 11 = true := by kernel_rfl
theorem en12 : entB Try.prog 12 = true := by kernel_rfl
theorem ze5 : zeroB Try.prog 5 = some (.int .u8 0) := by kernel_rfl
theorem lex_to (v : Value) (l : List UInt8) (m : Int) (w : World) (ts : List Tk) (a : Nat) (c : Int) (hq : lexT l = ts ∧ lexA l = a ∧ lexE l = c) (hv : BytesAt w v l) (hm : w.cell? ⟨0, 0, none⟩ = some (.int .i64 m)) :
    Calls Try.prog 11 ([v] : List Value).toArray w fun e w' => ∃ v', e = .returned (.tuple #[v', .int .i64 (a : Int), .int .i64 c]) ∧ Below w.heap.size w w' ∧ OwnR 31 4 Tk.cs w' v' ts ∧ ∀ g, v'.ownBlock = some g → w.heap.size ≤ g := by
  obtain ⟨rfl, rfl, rfl⟩ := hq
  exact lex_any v l m w hv hm
theorem shown_any (m : Int) (w : World) (hm : w.cell? ⟨0, 0, none⟩ = some (.int .i64 m)) :
    Calls Try.prog 10 ([] : List Value).toArray w fun e w' => e = .returned (.bool true) ∧ Below w.heap.size w w' := by
  have hB := Below.refl w.heap.size w
  refine At.enter (N := 94) Try.func10 rfl rfl (by simp) [] (by simp) ?_
  refine At.seq ?_
  refine At.region ?_
  refine At.assign rfl rfl ?_
  refine At.ops0 ?_
  refine At.thenN ?_
  refine At.seq ?_
  refine At.region ?_
  refine At.buildSlice (xs := [.const (.int .u8 103), .const (.int .u8 101), .const (.int .u8 116), .const (.int .u8 33), .const (.int .u8 120), .const (.int .u8 45), .const (.int .u8 62), .const (.int .u8 121), .const (.int .u8 32), .const (.int .u8 35), .const (.int .u8 32), .const (.int .u8 110), .const (.int .u8 111), .const (.int .u8 116), .const (.int .u8 101), .const (.int .u8 10), .const (.int .u8 32), .const (.int .u8 102), .const (.int .u8 32), .const (.int .u8 33), .const (.int .u8 120), .const (.int .u8 32), .const (.int .u8 49), .const (.int .u8 50)]) rfl rfl el22 sz5 ze5 (by intro v hv; simp only [List.mem_cons, List.not_mem_nil, or_false] at hv; rcases hv with rfl | rfl | rfl | rfl | rfl | rfl | rfl | rfl | rfl | rfl | rfl | rfl | rfl | rfl | rfl | rfl | rfl | rfl | rfl | rfl | rfl | rfl | rfl | rfl <;> first | rfl | simp [Value.cells, Value.cells]) rfl (by decide) rfl (fun b1 w1 F1 => ?_)
  have gb1 := F1.ge hB
  have hb1 : w1.heap[b1]? = some (.cells #[.int .u8 103, .int .u8 101, .int .u8 116, .int .u8 33, .int .u8 120, .int .u8 45, .int .u8 62, .int .u8 121, .int .u8 32, .int .u8 35, .int .u8 32, .int .u8 110, .int .u8 111, .int .u8 116, .int .u8 101, .int .u8 10, .int .u8 32, .int .u8 102, .int .u8 32, .int .u8 33, .int .u8 120, .int .u8 32, .int .u8 49, .int .u8 50] 5) := F1.new
  replace hB := F1.below' hB
  refine At.markB (l := g1) rfl hb1 rfl (by decide) el22 ik5 rfl (fun w2 S1 hby1 => ?_)
  replace hB := S1.below' hB gb1
  clear hb1
  refine At.call en11 rfl rfl (lex_to (.slice (some ⟨b1, 0, none⟩) 24 24) g1 m _ g1T 0 0 (lex_ok (by decide) g1_lex) (BytesAt.keep hby1 (Below.refl _ _)) (cell_keep hm hB)) (fun e w3 hR => ?_)
  obtain ⟨vt1, rfl, hbl1, hO1, ghO1⟩ := hR
  refine ⟨_, rfl, ?_⟩
  replace ghO1 : ∀ g, Value.ownBlock vt1 = some g → w.heap.size ≤ g := fun g h => Nat.le_trans hB.size (ghO1 g h)
  replace hby1 := hby1.below hbl1
  replace hB := Below.andThen hB hbl1
  refine At.move rfl rfl ?_
  refine At.extract rfl rfl rfl ?_
  refine At.extract rfl rfl rfl ?_
  refine At.extract rfl rfl rfl ?_
  refine At.assign rfl rfl ?_
  refine At.assign rfl rfl ?_
  refine At.assign rfl rfl ?_
  refine At.ops0 ?_
  refine At.thenN ?_
  refine At.seq ?_
  refine At.region ?_
  refine At.buildSlice (xs := [.const (.int .u8 97), .const (.int .u8 32), .const (.int .u8 36)]) rfl rfl el22 sz5 ze5 (by intro v hv; simp only [List.mem_cons, List.not_mem_nil, or_false] at hv; rcases hv with rfl | rfl | rfl <;> first | rfl | simp [Value.cells, Value.cells]) rfl (by decide) rfl (fun b2 w4 F2 => ?_)
  have gb2 := F2.ge hB
  replace hby1 := hby1.fresh F2
  replace hO1 := hO1.fresh F2
  have hb2 : w4.heap[b2]? = some (.cells #[.int .u8 97, .int .u8 32, .int .u8 36] 5) := F2.new
  replace hB := F2.below' hB
  refine At.markB (l := ([97, 32, 36] : List UInt8)) rfl hb2 rfl (by decide) el22 ik5 rfl (fun w5 S2 hby2 => ?_)
  clear hby1
  replace hO1 := hO1.set S2 (hO1.neT hb2 rfl)
  replace hB := S2.below' hB gb2
  clear hb2
  refine At.call en11 rfl rfl (lex_to (.slice (some ⟨b2, 0, none⟩) 3 3) ([97, 32, 36] : List UInt8) m _ ([]) 2 2 (lex_bad (by decide) g2_lex) (BytesAt.keep hby2 (Below.refl _ _)) (cell_keep hm hB)) (fun e w6 hR => ?_)
  obtain ⟨vt2, rfl, hbl2, hO2, ghO2⟩ := hR
  refine ⟨_, rfl, ?_⟩
  replace ghO2 : ∀ g, Value.ownBlock vt2 = some g → w.heap.size ≤ g := fun g h => Nat.le_trans hB.size (ghO2 g h)
  replace hO1 := hO1.below hbl2
  replace hby2 := hby2.below hbl2
  replace hB := Below.andThen hB hbl2
  refine At.move rfl rfl ?_
  refine At.extract rfl rfl rfl ?_
  refine At.extract rfl rfl rfl ?_
  refine At.extract rfl rfl rfl ?_
  refine At.assign rfl rfl ?_
  refine At.assign rfl rfl ?_
  refine At.assign rfl rfl ?_
  refine At.ops0 ?_
  refine At.thenN ?_
  refine At.seq ?_
  refine At.seq ?_
  refine At.region ?_
  refine At.move rfl rfl ?_
  refine At.lenSl rfl (Own.slOk hO1) el24 rfl ?_
  refine At.neI rfl rfl rfl ?_
  refine At.ops0 ?_
  refine At.thenN ?_
  have hb : ((!decide ((g1T.length : Int) = 8))) = false := by kernel_rfl
  refine At.set (d := 23) (u := .bool false) rfl (congrArg Value.bool hb) ?_
  refine At.condF rfl ?_
  refine At.skip ?_
  refine At.thenN ?_
  refine At.seq ?_
  refine At.region ?_
  refine At.move rfl rfl ?_
  refine At.eqI rfl rfl rfl ?_
  refine At.move rfl rfl ?_
  have hbb1 : (decide (0 = 0)) = true := by kernel_rfl
  refine At.set (d := 26) (u := .bool true) rfl (congrArg Value.bool hbb1) ?_
  refine At.yes rfl rfl rfl rfl ?_
  refine At.move rfl rfl ?_
  refine At.yes rfl rfl rfl rfl ?_
  refine At.eqI rfl rfl rfl ?_
  refine At.pickT rfl rfl rfl ?_
  refine At.move rfl rfl ?_
  have hbb2 : (decide (0 = 0)) = true := by kernel_rfl
  refine At.set (d := 30) (u := .bool true) rfl (congrArg Value.bool hbb2) ?_
  refine At.yes rfl rfl rfl rfl ?_
  refine At.move rfl rfl ?_
  refine At.yes rfl rfl rfl rfl ?_
  refine At.indexAddr (i := 0) rfl rfl (Own.slOk hO1) (lt_of_some (show g1T[0]? = some (g1K 0) from rfl)) el24 sz31 rfl ?_
  refine At.yes rfl rfl rfl rfl ?_
  refine At.fieldAddr rfl fo31_0 rfl ?_
  refine At.yes rfl rfl rfl rfl ?_
  refine At.load rfl (Ld.cell ag3 (cell_keep ((((OwnR.rows hO1 (fun u hu => (((fun u _ => tk_ok u)) u hu).size))).row (show g1T[0]? = some (g1K 0) from rfl)).get ((((fun u _ => tk_ok u)) (g1K 0) (List.mem_of_getElem? (show g1T[0]? = some (g1K 0) from rfl)))).c0) (Below.refl _ _))) rfl ?_
  refine At.yes rfl rfl rfl rfl ?_
  refine At.eqI rfl rfl rfl ?_
  refine At.pickT rfl rfl rfl ?_
  refine At.move rfl rfl ?_
  have hbb3 : (decide ((g1K 0).k = 6)) = true := by kernel_rfl
  refine At.set (d := 37) (u := .bool true) rfl (congrArg Value.bool hbb3) ?_
  refine At.yes rfl rfl rfl rfl ?_
  refine At.move rfl rfl ?_
  refine At.yes rfl rfl rfl rfl ?_
  refine At.indexAddr (i := 0) rfl rfl (Own.slOk hO1) (lt_of_some (show g1T[0]? = some (g1K 0) from rfl)) el24 sz31 rfl ?_
  refine At.yes rfl rfl rfl rfl ?_
  refine At.fieldAddr rfl fo31_1 rfl ?_
  refine At.yes rfl rfl rfl rfl ?_
  refine At.load rfl (Ld.cell ag9 (cell_keep ((((OwnR.rows hO1 (fun u hu => (((fun u _ => tk_ok u)) u hu).size))).row (show g1T[0]? = some (g1K 0) from rfl)).get ((((fun u _ => tk_ok u)) (g1K 0) (List.mem_of_getElem? (show g1T[0]? = some (g1K 0) from rfl)))).c1) (Below.refl _ _))) rfl ?_
  refine At.yes rfl rfl rfl rfl ?_
  refine At.eqB' (a := (g1K 0).t) (b := ([103, 101, 116] : List UInt8)) rfl rfl rfl ?_
  refine At.pickT rfl rfl rfl ?_
  refine At.move rfl rfl ?_
  have hbb4 : (decide ((g1K 0).t = ([103, 101, 116] : List UInt8))) = true := by kernel_rfl
  refine At.set (d := 44) (u := .bool true) rfl (congrArg Value.bool hbb4) ?_
  refine At.yes rfl rfl rfl rfl ?_
  refine At.move rfl rfl ?_
  refine At.yes rfl rfl rfl rfl ?_
  refine At.indexAddr (i := 2) rfl rfl (Own.slOk hO1) (lt_of_some (show g1T[2]? = some (g1K 2) from rfl)) el24 sz31 rfl ?_
  refine At.yes rfl rfl rfl rfl ?_
  refine At.fieldAddr rfl fo31_1 rfl ?_
  refine At.yes rfl rfl rfl rfl ?_
  refine At.load rfl (Ld.cell ag9 (cell_keep ((((OwnR.rows hO1 (fun u hu => (((fun u _ => tk_ok u)) u hu).size))).row (show g1T[2]? = some (g1K 2) from rfl)).get ((((fun u _ => tk_ok u)) (g1K 2) (List.mem_of_getElem? (show g1T[2]? = some (g1K 2) from rfl)))).c1) (Below.refl _ _))) rfl ?_
  refine At.yes rfl rfl rfl rfl ?_
  refine At.eqB' (a := (g1K 2).t) (b := ([45, 62] : List UInt8)) rfl rfl rfl ?_
  refine At.pickT rfl rfl rfl ?_
  refine At.move rfl rfl ?_
  have hbb5 : (decide ((g1K 2).t = ([45, 62] : List UInt8))) = true := by kernel_rfl
  refine At.set (d := 51) (u := .bool true) rfl (congrArg Value.bool hbb5) ?_
  refine At.yes rfl rfl rfl rfl ?_
  refine At.move rfl rfl ?_
  refine At.yes rfl rfl rfl rfl ?_
  refine At.indexAddr (i := 4) rfl rfl (Own.slOk hO1) (lt_of_some (show g1T[4]? = some (g1K 4) from rfl)) el24 sz31 rfl ?_
  refine At.yes rfl rfl rfl rfl ?_
  refine At.fieldAddr rfl fo31_0 rfl ?_
  refine At.yes rfl rfl rfl rfl ?_
  refine At.load rfl (Ld.cell ag3 (cell_keep ((((OwnR.rows hO1 (fun u hu => (((fun u _ => tk_ok u)) u hu).size))).row (show g1T[4]? = some (g1K 4) from rfl)).get ((((fun u _ => tk_ok u)) (g1K 4) (List.mem_of_getElem? (show g1T[4]? = some (g1K 4) from rfl)))).c0) (Below.refl _ _))) rfl ?_
  refine At.yes rfl rfl rfl rfl ?_
  refine At.eqI rfl rfl rfl ?_
  refine At.pickT rfl rfl rfl ?_
  refine At.move rfl rfl ?_
  have hbb6 : (decide ((g1K 4).k = 2)) = true := by kernel_rfl
  refine At.set (d := 58) (u := .bool true) rfl (congrArg Value.bool hbb6) ?_
  refine At.yes rfl rfl rfl rfl ?_
  refine At.move rfl rfl ?_
  refine At.yes rfl rfl rfl rfl ?_
  refine At.indexAddr (i := 5) rfl rfl (Own.slOk hO1) (lt_of_some (show g1T[5]? = some (g1K 5) from rfl)) el24 sz31 rfl ?_
  refine At.yes rfl rfl rfl rfl ?_
  refine At.fieldAddr rfl fo31_0 rfl ?_
  refine At.yes rfl rfl rfl rfl ?_
  refine At.load rfl (Ld.cell ag3 (cell_keep ((((OwnR.rows hO1 (fun u hu => (((fun u _ => tk_ok u)) u hu).size))).row (show g1T[5]? = some (g1K 5) from rfl)).get ((((fun u _ => tk_ok u)) (g1K 5) (List.mem_of_getElem? (show g1T[5]? = some (g1K 5) from rfl)))).c0) (Below.refl _ _))) rfl ?_
  refine At.yes rfl rfl rfl rfl ?_
  refine At.eqI rfl rfl rfl ?_
  refine At.pickT rfl rfl rfl ?_
  refine At.move rfl rfl ?_
  have hbb7 : (decide ((g1K 5).k = 5)) = true := by kernel_rfl
  refine At.set (d := 65) (u := .bool true) rfl (congrArg Value.bool hbb7) ?_
  refine At.yes rfl rfl rfl rfl ?_
  refine At.move rfl rfl ?_
  refine At.yes rfl rfl rfl rfl ?_
  refine At.indexAddr (i := 7) rfl rfl (Own.slOk hO1) (lt_of_some (show g1T[7]? = some (g1K 7) from rfl)) el24 sz31 rfl ?_
  refine At.yes rfl rfl rfl rfl ?_
  refine At.fieldAddr rfl fo31_2 rfl ?_
  refine At.yes rfl rfl rfl rfl ?_
  refine At.load rfl (Ld.cell ag3 (cell_keep ((((OwnR.rows hO1 (fun u hu => (((fun u _ => tk_ok u)) u hu).size))).row (show g1T[7]? = some (g1K 7) from rfl)).get ((((fun u _ => tk_ok u)) (g1K 7) (List.mem_of_getElem? (show g1T[7]? = some (g1K 7) from rfl)))).c2) (Below.refl _ _))) rfl ?_
  refine At.yes rfl rfl rfl rfl ?_
  refine At.eqI rfl rfl rfl ?_
  refine At.pickT rfl rfl rfl ?_
  refine At.move rfl rfl ?_
  have hbb8 : (decide ((g1K 7).n = 12)) = true := by kernel_rfl
  refine At.set (d := 72) (u := .bool true) rfl (congrArg Value.bool hbb8) ?_
  refine At.yes rfl rfl rfl rfl ?_
  refine At.move rfl rfl ?_
  refine At.yes rfl rfl rfl rfl ?_
  refine At.indexAddr (i := 7) rfl rfl (Own.slOk hO1) (lt_of_some (show g1T[7]? = some (g1K 7) from rfl)) el24 sz31 rfl ?_
  refine At.yes rfl rfl rfl rfl ?_
  refine At.fieldAddr rfl fo31_3 rfl ?_
  refine At.yes rfl rfl rfl rfl ?_
  refine At.load rfl (Ld.cell ag3 (cell_keep ((((OwnR.rows hO1 (fun u hu => (((fun u _ => tk_ok u)) u hu).size))).row (show g1T[7]? = some (g1K 7) from rfl)).get ((((fun u _ => tk_ok u)) (g1K 7) (List.mem_of_getElem? (show g1T[7]? = some (g1K 7) from rfl)))).c3) (Below.refl _ _))) rfl ?_
  refine At.yes rfl rfl rfl rfl ?_
  refine At.eqI rfl rfl rfl ?_
  refine At.pickT rfl rfl rfl ?_
  refine At.move rfl rfl ?_
  have hbb9 : (decide ((g1K 7).a = 22)) = true := by kernel_rfl
  refine At.set (d := 79) (u := .bool true) rfl (congrArg Value.bool hbb9) ?_
  refine At.yes rfl rfl rfl rfl ?_
  refine At.move rfl rfl ?_
  refine At.yes rfl rfl rfl rfl ?_
  refine At.eqI rfl rfl rfl ?_
  refine At.pickT rfl rfl rfl ?_
  refine At.move rfl rfl ?_
  have hbb10 : (decide (2 = 2)) = true := by kernel_rfl
  refine At.set (d := 83) (u := .bool true) rfl (congrArg Value.bool hbb10) ?_
  refine At.yes rfl rfl rfl rfl ?_
  refine At.move rfl rfl ?_
  refine At.yes rfl rfl rfl rfl ?_
  refine At.eqI rfl rfl rfl ?_
  refine At.pickT rfl rfl rfl ?_
  refine At.move rfl rfl ?_
  have hbb11 : (decide (2 = 2)) = true := by kernel_rfl
  refine At.set (d := 87) (u := .bool true) rfl (congrArg Value.bool hbb11) ?_
  refine At.yes rfl rfl rfl rfl ?_
  refine At.move rfl rfl ?_
  refine At.yes rfl rfl rfl rfl ?_
  refine At.call en12 rfl rfl (text_any vt1 g1T _ (OwnR.rows hO1 (fun u hu => (((fun u _ => tk_ok u)) u hu).size)) (by decide) (by decide) (by rw [g1_text]; decide)) (fun e w7 hR => ?_)
  obtain ⟨rfl, hbl3⟩ := hR
  refine ⟨_, rfl, ?_⟩
  replace hO1 := hO1.below hbl3
  replace hby2 := hby2.below hbl3
  replace hO2 := hO2.below hbl3
  replace hB := Below.andThen hB hbl3
  refine At.yes rfl rfl rfl rfl ?_
  refine At.eqB' (a := (textL g1T)) (b := ([103, 101, 116, 33, 32, 120, 32, 45, 62, 32, 121, 32, 102, 32, 33, 32, 120, 32, 49, 50] : List UInt8)) rfl rfl rfl ?_
  refine At.pickT rfl rfl rfl ?_
  refine At.move rfl rfl ?_
  have hbb12 : (decide ((textL g1T) = ([103, 101, 116, 33, 32, 120, 32, 45, 62, 32, 121, 32, 102, 32, 33, 32, 120, 32, 49, 50] : List UInt8))) = true := by kernel_rfl
  refine At.set (d := 92) (u := .bool true) rfl (congrArg Value.bool hbb12) ?_
  refine At.pickT rfl rfl rfl ?_
  refine At.assign rfl rfl ?_
  refine At.ops0 ?_
  refine At.thenN ?_
  refine At.retc ?_
  refine At.doneR (ResV.tmp rfl ResV.nil) ?_
  exact ⟨rfl, hB⟩
end Go.Proofs.Ytkalnkedpiemaaa
