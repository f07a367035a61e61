/-
  The walks of the reference's check, and of ScopeChecks: what each call does, for every argument that lies so in memory. Written by a program of ours.
-/
import Derived.Test.YtkclfcdppnlkbaaW6
import Derived.Test.YtkclfcdppnlkbaaS8
set_option linter.unusedVariables false
set_option linter.unusedSimpArgs false
namespace Go.Proofs.Ytkclfcdppnlkbaa
open Go.RowKit
theorem en44 : entB Try.prog 44 = true := by kernel_rfl
theorem en66 : entB Try.prog 66 = true := by kernel_rfl
theorem twice_any (v : Value) (l : List ByteArray) (w : World) (hv : StrsAt w v l) (hl : l.length ≤ 4398046511104) :
    Calls Try.prog 66 ([v] : List Value).toArray w fun e w' => e = .returned (.bool (twiceFrom [] l)) ∧ Below w.heap.size w w' := by
  have hB := Below.refl w.heap.size w
  refine At.enter (N := 25) Try.func66 rfl rfl (by simp) [(0, v)] (by simp) ?_
  refine At.seq ?_
  refine At.region ?_
  refine At.assign rfl rfl ?_
  refine At.ops0 ?_
  refine At.thenN ?_
  refine At.seq ?_
  refine At.seq ?_
  refine At.region ?_
  refine At.assign rfl rfl ?_
  refine At.ops0 ?_
  refine At.thenN ?_
  refine At.block ?_
  refine At.loop (Nat) (fun k => [(0, v), (3, .int .i64 (k : Int))]) (fun k w1 => Below w.heap.size w w1 ∧ (k ≤ l.length) ∧ (twiceFrom ((l.take k).foldl accN []) (l.drop k) = twiceFrom [] l)) (fun k => l.length - k) (0 : Nat) (Sub.cons rfl (Sub.cons rfl Sub.nil)) ⟨hB, (Nat.zero_le _), (rfl)⟩ (fun k w1 hI => ?_)
  clear hB
  obtain ⟨hB, hkb, hn⟩ := hI
  show At _ _ [(0, v), (3, .int .i64 (k : Int))] _ _
  refine At.seq ?_
  refine At.seq ?_
  refine At.region ?_
  refine At.move rfl rfl ?_
  refine At.move rfl rfl ?_
  refine At.lenSl rfl (hv).ok el27 rfl ?_
  refine At.lss rfl rfl rfl ?_
  refine At.ops0 ?_
  refine At.thenN ?_
  refine At.cond (b := decide ((k : Int) < (l.length : Int))) rfl (fun hc1 => ?_) (fun hc1 => ?_)
  · skip
    have hc1' := of_decide_eq_true hc1
    refine At.skip ?_
    refine At.thenN ?_
    refine At.seq ?_
    refine At.block ?_
    refine At.seq ?_
    obtain ⟨u1, hu1⟩ := some_of_lt (l := l) (i := k) (by omega)
    refine At.cases ((!decide (u1 = (⟨#[95]⟩ : ByteArray)))) (fun hg1 => ?_) (fun hg1 => ?_)
    · skip
      have hg1' := hg1; simp only [Bool.not_eq_true', Bool.not_eq_false', decide_eq_true_eq, decide_eq_false_iff_not] at hg1'
      have hle1 : k ≤ l.length := by omega
      refine At.drawG (n := 15) mixed (by kernel_rfl) rfl (PanicOk.then (PanicOk.block (PanicOk.then (PanicOk.then (PanicOk.block (PanicOk.then PanicOk.body)))))) ?_
      have hB := Below.drewB hB
      refine At.wpcS (i := 0) (d := 10) (v) (by kernel_rfl) rfl rfl rfl (fun Lx => ?_) ?_
      · skip
        refine At.move rfl rfl ?_
        refine At.ops0 ?_
        exact fun a ha => ⟨ha, rfl⟩
      refine At.wpcS (i := 1) (d := 11) (.int .i64 (k : Int)) (by kernel_rfl) rfl rfl rfl (fun Lx => ?_) ?_
      · skip
        refine At.move rfl rfl ?_
        refine At.ops0 ?_
        exact fun a ha => ⟨ha, rfl⟩
      refine At.wpcS (i := 2) (d := 12) (.pointer (some ⟨vBlock v, vOff v + k * 1, none⟩)) (by kernel_rfl) rfl rfl rfl (fun Lx => ?_) ?_
      · skip
        refine At.indexAddr (i := k) rfl rfl (hv).ok (lt_of_some hu1) el27 sz9 rfl ?_
        refine At.ops0 ?_
        exact fun a ha => ⟨ha, rfl⟩
      refine At.wpcS (i := 3) (d := 13) (.string u1) (by kernel_rfl) rfl rfl rfl (fun Lx => ?_) ?_
      · skip
        refine At.load rfl (Ld.cell ag9 (cell_keep ((hv).get hu1) hB)) rfl ?_
        refine At.ops0 ?_
        exact fun a ha => ⟨ha, rfl⟩
      refine At.wpcS (i := 4) (d := 14) (.bool (!decide (u1 = (⟨#[95]⟩ : ByteArray)))) (by kernel_rfl) rfl rfl rfl (fun Lx => ?_) ?_
      · skip
        refine At.neS rfl rfl rfl ?_
        refine At.ops0 ?_
        exact fun a ha => ⟨ha, rfl⟩
      refine At.set (d := 14) (u := .bool true) rfl (congrArg Value.bool hg1) ?_
      refine At.wpcS (i := 5) (d := 15) (.bool true) (by kernel_rfl) rfl rfl rfl (fun Lx => ?_) ?_
      · skip
        refine At.move rfl rfl ?_
        refine At.ops0 ?_
        exact fun a ha => ⟨ha, rfl⟩
      refine At.wpcS (i := 6) (d := 16) (v) (by kernel_rfl) rfl rfl rfl (fun Lx => ?_) ?_
      · skip
        refine At.yes rfl rfl rfl rfl ?_
        refine At.move rfl rfl ?_
        refine At.ops0 ?_
        exact fun a ha => ⟨ha, rfl⟩
      refine At.wpcS (i := 7) (d := 17) (.int .i64 (k : Int)) (by kernel_rfl) rfl rfl rfl (fun Lx => ?_) ?_
      · skip
        refine At.yes rfl rfl rfl rfl ?_
        refine At.move rfl rfl ?_
        refine At.ops0 ?_
        exact fun a ha => ⟨ha, rfl⟩
      refine At.wpcS (i := 8) (d := 18) ((takeV v k)) (by kernel_rfl) rfl rfl rfl (fun Lx => ?_) ?_
      · skip
        refine At.yes rfl rfl rfl rfl ?_
        refine At.sliceTo (h := k) rfl rfl (hv).ok el27 sz9 hle1 rfl ?_
        refine At.ops0 ?_
        exact fun a ha => ⟨ha, rfl⟩
      refine At.wpcS (i := 9) (d := 19) (v) (by kernel_rfl) rfl rfl rfl (fun Lx => ?_) ?_
      · skip
        refine At.yes rfl rfl rfl rfl ?_
        refine At.move rfl rfl ?_
        refine At.ops0 ?_
        exact fun a ha => ⟨ha, rfl⟩
      refine At.wpcS (i := 10) (d := 20) (.int .i64 (k : Int)) (by kernel_rfl) rfl rfl rfl (fun Lx => ?_) ?_
      · skip
        refine At.yes rfl rfl rfl rfl ?_
        refine At.move rfl rfl ?_
        refine At.ops0 ?_
        exact fun a ha => ⟨ha, rfl⟩
      refine At.wpcS (i := 11) (d := 21) (.pointer (some ⟨vBlock v, vOff v + k * 1, none⟩)) (by kernel_rfl) rfl rfl rfl (fun Lx => ?_) ?_
      · skip
        refine At.yes rfl rfl rfl rfl ?_
        refine At.indexAddr (i := k) rfl rfl (hv).ok (lt_of_some hu1) el27 sz9 rfl ?_
        refine At.ops0 ?_
        exact fun a ha => ⟨ha, rfl⟩
      refine At.wpcS (i := 12) (d := 22) (.string u1) (by kernel_rfl) rfl rfl rfl (fun Lx => ?_) ?_
      · skip
        refine At.yes rfl rfl rfl rfl ?_
        refine At.load rfl (Ld.cell ag9 (cell_keep ((hv).get hu1) hB)) rfl ?_
        refine At.ops0 ?_
        exact fun a ha => ⟨ha, rfl⟩
      refine At.wpcE [13] (by kernel_rfl) (by kernel_rfl) (.cons [] rfl (by kernel_rfl) ?_ .nil)
      refine At.yes rfl rfl rfl rfl ?_
      refine At.call en44 rfl rfl (in_any (takeV v k) (l.take k) u1 _ (((StrsAt.take hv hle1)).keep hB) (by simp only [List.length_take]; omega)) (fun e w' hR => ?_)
      obtain ⟨rfl, rfl⟩ := hR
      refine ⟨_, rfl, ?_⟩
      refine At.ops0 ?_
      refine At.wpcN .nil ?_
      refine At.wpcS (i := 14) (d := 24) (.bool (memB u1 (l.take k))) (by kernel_rfl) rfl rfl rfl (fun Lx => ?_) ?_
      · skip
        refine At.pickT rfl rfl rfl ?_
        refine At.ops0 ?_
        exact fun a ha => ⟨ha, rfl⟩
      refine At.wpcZ ?_
      refine At.thenN ?_
      refine At.cond (b := (memB u1 (l.take k))) rfl (fun hc2 => ?_) (fun hc2 => ?_)
      · skip
        refine At.seq ?_
        refine At.region ?_
        refine At.assign rfl rfl ?_
        refine At.ops0 ?_
        refine At.thenN ?_
        refine At.retc ?_
        refine At.inR ?_
        refine At.thenR ?_
        refine At.thenR ?_
        refine At.inR ?_
        refine At.thenR ?_
        refine At.doneR (ResV.tmp rfl ResV.nil) ?_
        exact ⟨congrArg Ending.returned (congrArg Value.bool (Eq.symm (by rw [← hn]; exact twice_yes hu1 (twice_same.trans (by simp [hg1, hc2]))))), hB⟩
      · skip
        refine At.skip ?_
        refine At.inN ?_
        refine At.thenN ?_
        refine At.region ?_
        refine At.move rfl rfl ?_
        refine At.addI rfl rfl rfl (by omega) ?_
        refine At.assign rfl rfl ?_
        refine At.ops0 ?_
        refine At.thenN ?_
        exact fun a ha => ⟨(k + 1), ha.sub (Sub.cons rfl (Sub.cons rfl Sub.nil)), ⟨hB, (by omega), (by rw [acc_snoc hu1, ← hn, twice_no hu1 (twice_same.trans (by simp [hg1, hc2]))])⟩, by first | omega | (dsimp only; omega)⟩
    · skip
      have hg1' := hg1; simp only [Bool.not_eq_true', Bool.not_eq_false', decide_eq_true_eq, decide_eq_false_iff_not] at hg1'
      refine At.drawG (n := 15) mixed (by kernel_rfl) rfl (PanicOk.then (PanicOk.block (PanicOk.then (PanicOk.then (PanicOk.block (PanicOk.then PanicOk.body)))))) ?_
      have hB := Below.drewB hB
      refine At.wpcS (i := 0) (d := 10) (v) (by kernel_rfl) rfl rfl rfl (fun Lx => ?_) ?_
      · skip
        refine At.move rfl rfl ?_
        refine At.ops0 ?_
        exact fun a ha => ⟨ha, rfl⟩
      refine At.wpcS (i := 1) (d := 11) (.int .i64 (k : Int)) (by kernel_rfl) rfl rfl rfl (fun Lx => ?_) ?_
      · skip
        refine At.move rfl rfl ?_
        refine At.ops0 ?_
        exact fun a ha => ⟨ha, rfl⟩
      refine At.wpcS (i := 2) (d := 12) (.pointer (some ⟨vBlock v, vOff v + k * 1, none⟩)) (by kernel_rfl) rfl rfl rfl (fun Lx => ?_) ?_
      · skip
        refine At.indexAddr (i := k) rfl rfl (hv).ok (lt_of_some hu1) el27 sz9 rfl ?_
        refine At.ops0 ?_
        exact fun a ha => ⟨ha, rfl⟩
      refine At.wpcS (i := 3) (d := 13) (.string u1) (by kernel_rfl) rfl rfl rfl (fun Lx => ?_) ?_
      · skip
        refine At.load rfl (Ld.cell ag9 (cell_keep ((hv).get hu1) hB)) rfl ?_
        refine At.ops0 ?_
        exact fun a ha => ⟨ha, rfl⟩
      refine At.wpcS (i := 4) (d := 14) (.bool (!decide (u1 = (⟨#[95]⟩ : ByteArray)))) (by kernel_rfl) rfl rfl rfl (fun Lx => ?_) ?_
      · skip
        refine At.neS rfl rfl rfl ?_
        refine At.ops0 ?_
        exact fun a ha => ⟨ha, rfl⟩
      refine At.set (d := 14) (u := .bool false) rfl (congrArg Value.bool hg1) ?_
      refine At.wpcS (i := 5) (d := 15) (.bool false) (by kernel_rfl) rfl rfl rfl (fun Lx => ?_) ?_
      · skip
        refine At.move rfl rfl ?_
        refine At.ops0 ?_
        exact fun a ha => ⟨ha, rfl⟩
      refine At.wpcS (i := 6) (d := 16) (undef) (by kernel_rfl) rfl rfl rfl (fun Lx => ?_) ?_
      · skip
        refine At.no rfl rfl rfl rfl rfl rfl rfl ?_
        refine At.ops0 ?_
        exact fun a ha => ⟨ha, rfl⟩
      refine At.wpcS (i := 7) (d := 17) (undef) (by kernel_rfl) rfl rfl rfl (fun Lx => ?_) ?_
      · skip
        refine At.no rfl rfl rfl rfl rfl rfl rfl ?_
        refine At.ops0 ?_
        exact fun a ha => ⟨ha, rfl⟩
      refine At.wpcS (i := 8) (d := 18) (undef) (by kernel_rfl) rfl rfl rfl (fun Lx => ?_) ?_
      · skip
        refine At.no rfl rfl rfl rfl rfl rfl rfl ?_
        refine At.ops0 ?_
        exact fun a ha => ⟨ha, rfl⟩
      refine At.wpcS (i := 9) (d := 19) (undef) (by kernel_rfl) rfl rfl rfl (fun Lx => ?_) ?_
      · skip
        refine At.no rfl rfl rfl rfl rfl rfl rfl ?_
        refine At.ops0 ?_
        exact fun a ha => ⟨ha, rfl⟩
      refine At.wpcS (i := 10) (d := 20) (undef) (by kernel_rfl) rfl rfl rfl (fun Lx => ?_) ?_
      · skip
        refine At.no rfl rfl rfl rfl rfl rfl rfl ?_
        refine At.ops0 ?_
        exact fun a ha => ⟨ha, rfl⟩
      refine At.wpcS (i := 11) (d := 21) (undef) (by kernel_rfl) rfl rfl rfl (fun Lx => ?_) ?_
      · skip
        refine At.no rfl rfl rfl rfl rfl rfl rfl ?_
        refine At.ops0 ?_
        exact fun a ha => ⟨ha, rfl⟩
      refine At.wpcS (i := 12) (d := 22) (undef) (by kernel_rfl) rfl rfl rfl (fun Lx => ?_) ?_
      · skip
        refine At.no rfl rfl rfl rfl rfl rfl rfl ?_
        refine At.ops0 ?_
        exact fun a ha => ⟨ha, rfl⟩
      refine At.wpcE [13] (by kernel_rfl) (by kernel_rfl) (.cons [] rfl (by kernel_rfl) ?_ .nil)
      refine At.no rfl rfl rfl rfl rfl rfl rfl ?_
      refine At.ops0 ?_
      refine At.wpcN .nil ?_
      refine At.wpcS (i := 14) (d := 24) (.bool false) (by kernel_rfl) rfl rfl rfl (fun Lx => ?_) ?_
      · skip
        refine At.pickF rfl rfl rfl ?_
        refine At.ops0 ?_
        exact fun a ha => ⟨ha, rfl⟩
      refine At.wpcZ ?_
      refine At.thenN ?_
      refine At.condF rfl ?_
      refine At.skip ?_
      refine At.inN ?_
      refine At.thenN ?_
      refine At.region ?_
      refine At.move rfl rfl ?_
      refine At.addI rfl rfl rfl (by omega) ?_
      refine At.assign rfl rfl ?_
      refine At.ops0 ?_
      refine At.thenN ?_
      exact fun a ha => ⟨(k + 1), ha.sub (Sub.cons rfl (Sub.cons rfl Sub.nil)), ⟨hB, (by omega), (by rw [acc_snoc hu1, ← hn, twice_no hu1 (twice_same.trans (by simp [hg1]))])⟩, by first | omega | (dsimp only; omega)⟩
  · skip
    have hc1' := of_decide_eq_false hc1
    refine At.exit ?_
    refine At.thenE ?_
    refine At.thenE ?_
    refine At.inE ?_
    refine At.thenN ?_
    refine At.seq ?_
    refine At.region ?_
    refine At.assign rfl rfl ?_
    refine At.ops0 ?_
    refine At.thenN ?_
    refine At.retc ?_
    refine At.doneR (ResV.tmp rfl ResV.nil) ?_
    exact ⟨congrArg Ending.returned (congrArg Value.bool (Eq.symm (by rw [← hn, List.drop_eq_nil_of_le (by omega)]; rfl))), hB⟩
theorem first_any (p : Pr) (t : Ty) (w : World) (hp : PrOk w p) (ht : TyOk t) :
    Calls Try.prog 45 ([.agg p.cs, .agg t.cs] : List Value).toArray w fun e w' => e = .returned (.bool (knownT p.dats t)) ∧ Below w.heap.size w w' := by
  have hdl := hp.datsAt.lenL
  have hB := Below.refl w.heap.size w
  refine At.enter (N := 65) Try.func45 rfl rfl (by simp) [(0, .agg p.cs), (1, .agg t.cs)] (by simp) ?_
  refine At.seq ?_
  refine At.region ?_
  refine At.box rfl rfl (fun b1 w1 F1 => ?_)
  have gb1 := F1.ge hB
  have hb1 : w1.heap[b1]? = some (.cells p.cs 35) := F1.new
  replace hB := F1.below' hB
  refine At.box rfl rfl (fun b2 w2 F2 => ?_)
  have n_b1_b2 : b1 ≠ b2 := Nat.ne_of_lt (F2.lt hb1)
  have gb2 := F2.ge hB
  replace hb1 := F2.old hb1
  have hb2 : w2.heap[b2]? = some (.cells t.cs 31) := F2.new
  replace hB := F2.below' hB
  refine At.assign rfl rfl ?_
  refine At.ops0 ?_
  refine At.thenN ?_
  refine At.seq ?_
  refine At.seq ?_
  refine At.region ?_
  refine At.join [(2, .pointer (some ⟨b1, 0, none⟩)), (3, .pointer (some ⟨b2, 0, none⟩)), (27, .bool ((((!decide (t.var = 0)) || decide (0 < (t.args : Int))) || decide (0 < (t.labels : Int))) || (!decide (t.rvar = 0))))] (fun w' => w2 = w') ?_ (fun w3 hS => ?_)
  · skip
    refine At.fieldAddr rfl fo31_2 rfl ?_
    refine At.load rfl (Ld.ownCell ag3 hb2 (ht).c2) rfl ?_
    refine At.neI rfl rfl rfl ?_
    refine At.move rfl rfl ?_
    refine At.cases ((!decide (t.var = 0))) (fun hg1 => ?_) (fun hg1 => ?_)
    · skip
      refine At.set (d := 9) (u := .bool true) rfl (congrArg Value.bool hg1) ?_
      have hg1' := hg1; simp only [Bool.not_eq_true', Bool.not_eq_false', decide_eq_true_eq, decide_eq_false_iff_not] at hg1'
      refine At.no rfl rfl rfl rfl rfl rfl rfl ?_
      refine At.no rfl rfl rfl rfl rfl rfl rfl ?_
      refine At.no rfl rfl rfl rfl rfl rfl rfl ?_
      refine At.no rfl rfl rfl rfl rfl rfl rfl ?_
      refine At.pickT rfl rfl rfl ?_
      refine At.move rfl rfl ?_
      refine At.no rfl rfl rfl rfl rfl rfl rfl ?_
      refine At.no rfl rfl rfl rfl rfl rfl rfl ?_
      refine At.no rfl rfl rfl rfl rfl rfl rfl ?_
      refine At.no rfl rfl rfl rfl rfl rfl rfl ?_
      refine At.no rfl rfl rfl rfl rfl rfl rfl ?_
      refine At.pickT rfl rfl rfl ?_
      refine At.move rfl rfl ?_
      refine At.no rfl rfl rfl rfl rfl rfl rfl ?_
      refine At.no rfl rfl rfl rfl rfl rfl rfl ?_
      refine At.no rfl rfl rfl rfl rfl rfl rfl ?_
      refine At.no rfl rfl rfl rfl rfl rfl rfl ?_
      refine At.pickT rfl rfl rfl ?_
      exact At.joined (Sub.cons rfl (Sub.cons rfl (Sub.cons (by show some (Value.bool true) = some (Value.bool ((((!decide (t.var = 0)) || decide (0 < (t.args : Int))) || decide (0 < (t.labels : Int))) || (!decide (t.rvar = 0)))); rw [hg1]; rfl) Sub.nil))) rfl
    · skip
      refine At.set (d := 9) (u := .bool false) rfl (congrArg Value.bool hg1) ?_
      have hg1' := hg1; simp only [Bool.not_eq_true', Bool.not_eq_false', decide_eq_true_eq, decide_eq_false_iff_not] at hg1'
      refine At.yes rfl rfl rfl rfl ?_
      refine At.fieldAddr rfl fo31_3 rfl ?_
      refine At.yes rfl rfl rfl rfl ?_
      refine At.load rfl (Ld.ownCell ag26 hb2 (ht).c3) rfl ?_
      refine At.yes rfl rfl rfl rfl ?_
      refine At.lenSl rfl (ht).argsOk el26 rfl ?_
      refine At.yes rfl rfl rfl rfl ?_
      refine At.gtr rfl rfl rfl ?_
      refine At.pickF rfl rfl rfl ?_
      refine At.move rfl rfl ?_
      refine At.cases (decide (0 < (t.args : Int))) (fun hg2 => ?_) (fun hg2 => ?_)
      · skip
        refine At.set (d := 15) (u := .bool true) rfl (congrArg Value.bool hg2) ?_
        have hg2' := of_decide_eq_true hg2
        refine At.no rfl rfl rfl rfl rfl rfl rfl ?_
        refine At.no rfl rfl rfl rfl rfl rfl rfl ?_
        refine At.no rfl rfl rfl rfl rfl rfl rfl ?_
        refine At.no rfl rfl rfl rfl rfl rfl rfl ?_
        refine At.no rfl rfl rfl rfl rfl rfl rfl ?_
        refine At.pickT rfl rfl rfl ?_
        refine At.move rfl rfl ?_
        refine At.no rfl rfl rfl rfl rfl rfl rfl ?_
        refine At.no rfl rfl rfl rfl rfl rfl rfl ?_
        refine At.no rfl rfl rfl rfl rfl rfl rfl ?_
        refine At.no rfl rfl rfl rfl rfl rfl rfl ?_
        refine At.pickT rfl rfl rfl ?_
        exact At.joined (Sub.cons rfl (Sub.cons rfl (Sub.cons (by show some (Value.bool true) = some (Value.bool ((((!decide (t.var = 0)) || decide (0 < (t.args : Int))) || decide (0 < (t.labels : Int))) || (!decide (t.rvar = 0)))); rw [hg1, hg2]; rfl) Sub.nil))) rfl
      · skip
        refine At.set (d := 15) (u := .bool false) rfl (congrArg Value.bool hg2) ?_
        have hg2' := of_decide_eq_false hg2
        refine At.yes rfl rfl rfl rfl ?_
        refine At.fieldAddr rfl fo31_4 rfl ?_
        refine At.yes rfl rfl rfl rfl ?_
        refine At.fieldAddr rfl fo29_0 rfl ?_
        refine At.yes rfl rfl rfl rfl ?_
        refine At.load rfl (Ld.ownCell ag27 hb2 (ht).c4) rfl ?_
        refine At.yes rfl rfl rfl rfl ?_
        refine At.lenSl rfl (ht).labelsOk el27 rfl ?_
        refine At.yes rfl rfl rfl rfl ?_
        refine At.gtr rfl rfl rfl ?_
        refine At.pickF rfl rfl rfl ?_
        refine At.move rfl rfl ?_
        refine At.cases (decide (0 < (t.labels : Int))) (fun hg3 => ?_) (fun hg3 => ?_)
        · skip
          refine At.set (d := 22) (u := .bool true) rfl (congrArg Value.bool hg3) ?_
          have hg3' := of_decide_eq_true hg3
          refine At.no rfl rfl rfl rfl rfl rfl rfl ?_
          refine At.no rfl rfl rfl rfl rfl rfl rfl ?_
          refine At.no rfl rfl rfl rfl rfl rfl rfl ?_
          refine At.no rfl rfl rfl rfl rfl rfl rfl ?_
          refine At.pickT rfl rfl rfl ?_
          exact At.joined (Sub.cons rfl (Sub.cons rfl (Sub.cons (by show some (Value.bool true) = some (Value.bool ((((!decide (t.var = 0)) || decide (0 < (t.args : Int))) || decide (0 < (t.labels : Int))) || (!decide (t.rvar = 0)))); rw [hg1, hg2, hg3]; rfl) Sub.nil))) rfl
        · skip
          refine At.set (d := 22) (u := .bool false) rfl (congrArg Value.bool hg3) ?_
          have hg3' := of_decide_eq_false hg3
          refine At.yes rfl rfl rfl rfl ?_
          refine At.fieldAddr rfl fo31_4 rfl ?_
          refine At.yes rfl rfl rfl rfl ?_
          refine At.fieldAddr rfl fo29_1 rfl ?_
          refine At.yes rfl rfl rfl rfl ?_
          refine At.load rfl (Ld.ownCell ag3 hb2 (ht).c5) rfl ?_
          refine At.yes rfl rfl rfl rfl ?_
          refine At.neI rfl rfl rfl ?_
          refine At.pickF rfl rfl rfl ?_
          exact At.joined (Sub.cons rfl (Sub.cons rfl (Sub.cons (by show some (Value.bool (!decide (t.rvar = 0))) = some (Value.bool ((((!decide (t.var = 0)) || decide (0 < (t.args : Int))) || decide (0 < (t.labels : Int))) || (!decide (t.rvar = 0)))); rw [hg1, hg2, hg3]; rfl) Sub.nil))) rfl
  · skip
    subst hS
    refine At.thenN ?_
    refine At.cond (b := ((((!decide (t.var = 0)) || decide (0 < (t.args : Int))) || decide (0 < (t.labels : Int))) || (!decide (t.rvar = 0)))) rfl (fun hc1 => ?_) (fun hc1 => ?_)
    · skip
      refine At.seq ?_
      refine At.region ?_
      refine At.assign rfl rfl ?_
      refine At.ops0 ?_
      refine At.thenN ?_
      refine At.retc ?_
      refine At.thenR ?_
      refine At.doneR (ResV.tmp rfl ResV.nil) ?_
      exact ⟨congrArg Ending.returned (congrArg Value.bool (Eq.symm (first_bare hc1))), hB⟩
    · skip
      refine At.skip ?_
      refine At.thenN ?_
      refine At.seq ?_
      refine At.seq ?_
      refine At.region ?_
      refine At.join [(2, .pointer (some ⟨b1, 0, none⟩)), (3, .pointer (some ⟨b2, 0, none⟩)), (40, .bool ((decide (t.k = 1) || decide (t.k = 2)) || decide (t.k = 3)))] (fun w' => w2 = w') ?_ (fun w4 hS => ?_)
      · skip
        refine At.fieldAddr rfl fo31_0 rfl ?_
        refine At.load rfl (Ld.ownCell ag3 hb2 (ht).c0) rfl ?_
        refine At.eqI rfl rfl rfl ?_
        refine At.move rfl rfl ?_
        refine At.cases (decide (t.k = 1)) (fun hg4 => ?_) (fun hg4 => ?_)
        · skip
          refine At.set (d := 31) (u := .bool true) rfl (congrArg Value.bool hg4) ?_
          have hg4' := of_decide_eq_true hg4
          refine At.no rfl rfl rfl rfl rfl rfl rfl ?_
          refine At.no rfl rfl rfl rfl rfl rfl rfl ?_
          refine At.no rfl rfl rfl rfl rfl rfl rfl ?_
          refine At.pickT rfl rfl rfl ?_
          refine At.move rfl rfl ?_
          refine At.no rfl rfl rfl rfl rfl rfl rfl ?_
          refine At.no rfl rfl rfl rfl rfl rfl rfl ?_
          refine At.no rfl rfl rfl rfl rfl rfl rfl ?_
          refine At.pickT rfl rfl rfl ?_
          exact At.joined (Sub.cons rfl (Sub.cons rfl (Sub.cons (by show some (Value.bool true) = some (Value.bool ((decide (t.k = 1) || decide (t.k = 2)) || decide (t.k = 3))); rw [hg4]; rfl) Sub.nil))) rfl
        · skip
          refine At.set (d := 31) (u := .bool false) rfl (congrArg Value.bool hg4) ?_
          have hg4' := of_decide_eq_false hg4
          refine At.yes rfl rfl rfl rfl ?_
          refine At.fieldAddr rfl fo31_0 rfl ?_
          refine At.yes rfl rfl rfl rfl ?_
          refine At.load rfl (Ld.ownCell ag3 hb2 (ht).c0) rfl ?_
          refine At.yes rfl rfl rfl rfl ?_
          refine At.eqI rfl rfl rfl ?_
          refine At.pickF rfl rfl rfl ?_
          refine At.move rfl rfl ?_
          refine At.cases (decide (t.k = 2)) (fun hg5 => ?_) (fun hg5 => ?_)
          · skip
            refine At.set (d := 36) (u := .bool true) rfl (congrArg Value.bool hg5) ?_
            have hg5' := of_decide_eq_true hg5
            refine At.no rfl rfl rfl rfl rfl rfl rfl ?_
            refine At.no rfl rfl rfl rfl rfl rfl rfl ?_
            refine At.no rfl rfl rfl rfl rfl rfl rfl ?_
            refine At.pickT rfl rfl rfl ?_
            exact At.joined (Sub.cons rfl (Sub.cons rfl (Sub.cons (by show some (Value.bool true) = some (Value.bool ((decide (t.k = 1) || decide (t.k = 2)) || decide (t.k = 3))); rw [hg4, hg5]; rfl) Sub.nil))) rfl
          · skip
            refine At.set (d := 36) (u := .bool false) rfl (congrArg Value.bool hg5) ?_
            have hg5' := of_decide_eq_false hg5
            refine At.yes rfl rfl rfl rfl ?_
            refine At.fieldAddr rfl fo31_0 rfl ?_
            refine At.yes rfl rfl rfl rfl ?_
            refine At.load rfl (Ld.ownCell ag3 hb2 (ht).c0) rfl ?_
            refine At.yes rfl rfl rfl rfl ?_
            refine At.eqI rfl rfl rfl ?_
            refine At.pickF rfl rfl rfl ?_
            exact At.joined (Sub.cons rfl (Sub.cons rfl (Sub.cons (by show some (Value.bool (decide (t.k = 3))) = some (Value.bool ((decide (t.k = 1) || decide (t.k = 2)) || decide (t.k = 3))); rw [hg4, hg5]; rfl) Sub.nil))) rfl
      · skip
        subst hS
        refine At.thenN ?_
        refine At.cond (b := ((decide (t.k = 1) || decide (t.k = 2)) || decide (t.k = 3))) rfl (fun hc2 => ?_) (fun hc2 => ?_)
        · skip
          refine At.seq ?_
          refine At.region ?_
          refine At.fieldAddr rfl fo31_1 rfl ?_
          refine At.load rfl (Ld.ownCell ag9 hb2 (ht).c1) rfl ?_
          refine At.eqS rfl rfl rfl ?_
          refine At.assign rfl rfl ?_
          refine At.ops0 ?_
          refine At.thenN ?_
          refine At.retc ?_
          refine At.thenR ?_
          refine At.doneR (ResV.tmp rfl ResV.nil) ?_
          exact ⟨congrArg Ending.returned (congrArg Value.bool (Eq.symm (first_kind hc1 hc2))), hB⟩
        · skip
          refine At.skip ?_
          refine At.thenN ?_
          refine At.seq ?_
          refine At.seq ?_
          refine At.region ?_
          refine At.assign rfl rfl ?_
          refine At.ops0 ?_
          refine At.thenN ?_
          refine At.block ?_
          refine At.loop (Nat) (fun k => [(2, .pointer (some ⟨b1, 0, none⟩)), (3, .pointer (some ⟨b2, 0, none⟩)), (5, .int .i64 (k : Int))]) (fun k w5 => Below w.heap.size w w5 ∧ w5.heap[b1]? = some (.cells p.cs 35) ∧ w5.heap[b2]? = some (.cells t.cs 31) ∧ (k ≤ p.dats.length) ∧ (∀ i x, i < k → p.dats[i]? = some x → (fun d : Dat => decide (t.k = 4) && decide (d.nm = t.nm)) x = false)) (fun k => p.dats.length - k) (0 : Nat) (Sub.cons rfl (Sub.cons rfl (Sub.cons rfl Sub.nil))) ⟨hB, hb1, hb2, (Nat.zero_le _), (fun j x hj => absurd hj (Nat.not_lt_zero j))⟩ (fun k w5 hI => ?_)
          clear hB hb1 hb2
          obtain ⟨hB, hb1, hb2, hk, hn⟩ := hI
          show At _ _ [(2, .pointer (some ⟨b1, 0, none⟩)), (3, .pointer (some ⟨b2, 0, none⟩)), (5, .int .i64 (k : Int))] _ _
          refine At.seq ?_
          refine At.seq ?_
          refine At.region ?_
          refine At.move rfl rfl ?_
          refine At.fieldAddr rfl fo35_1 rfl ?_
          refine At.load rfl (Ld.ownCell ag23 hb1 (hp).c1) rfl ?_
          refine At.lenSl rfl ((hp).datsAt).okL el23 rfl ?_
          refine At.lss rfl rfl rfl ?_
          refine At.ops0 ?_
          refine At.thenN ?_
          refine At.cond (b := decide ((k : Int) < (p.dats.length : Int))) rfl (fun hc3 => ?_) (fun hc3 => ?_)
          · skip
            have hc3' := of_decide_eq_true hc3
            refine At.skip ?_
            refine At.thenN ?_
            refine At.seq ?_
            refine At.block ?_
            refine At.seq ?_
            refine At.cases (decide (t.k = 4)) (fun hg6 => ?_) (fun hg6 => ?_)
            · skip
              have hg6' := of_decide_eq_true hg6
              obtain ⟨u1, hu1⟩ := some_of_lt (l := p.dats) (i := k) (by omega)
              refine At.drawG (n := 14) mixed (by kernel_rfl) rfl (PanicOk.then (PanicOk.block (PanicOk.then (PanicOk.then (PanicOk.block (PanicOk.then PanicOk.body)))))) ?_
              have hB := Below.drewB hB
              have hb1 : _ := (show w5.drew.heap[b1]? = _ from hb1)
              have hb2 : _ := (show w5.drew.heap[b2]? = _ from hb2)
              refine At.wpcS (i := 0) (d := 51) (.pointer (some ⟨b2, 0 + 0, none⟩)) (by kernel_rfl) rfl rfl rfl (fun Lx => ?_) ?_
              · skip
                refine At.fieldAddr rfl fo31_0 rfl ?_
                refine At.ops0 ?_
                exact fun a ha => ⟨ha, rfl⟩
              refine At.wpcS (i := 1) (d := 52) (.int .i64 t.k) (by kernel_rfl) rfl rfl rfl (fun Lx => ?_) ?_
              · skip
                refine At.load rfl (Ld.ownCell ag3 hb2 (ht).c0) rfl ?_
                refine At.ops0 ?_
                exact fun a ha => ⟨ha, rfl⟩
              refine At.wpcS (i := 2) (d := 53) (.bool (decide (t.k = 4))) (by kernel_rfl) rfl rfl rfl (fun Lx => ?_) ?_
              · skip
                refine At.eqI rfl rfl rfl ?_
                refine At.ops0 ?_
                exact fun a ha => ⟨ha, rfl⟩
              refine At.set (d := 53) (u := .bool true) rfl (congrArg Value.bool hg6) ?_
              refine At.wpcS (i := 3) (d := 54) (.bool true) (by kernel_rfl) rfl rfl rfl (fun Lx => ?_) ?_
              · skip
                refine At.move rfl rfl ?_
                refine At.ops0 ?_
                exact fun a ha => ⟨ha, rfl⟩
              refine At.wpcS (i := 4) (d := 55) (.pointer (some ⟨b1, 0 + 1, none⟩)) (by kernel_rfl) rfl rfl rfl (fun Lx => ?_) ?_
              · skip
                refine At.yes rfl rfl rfl rfl ?_
                refine At.fieldAddr rfl fo35_1 rfl ?_
                refine At.ops0 ?_
                exact fun a ha => ⟨ha, rfl⟩
              refine At.wpcS (i := 5) (d := 56) (p.dv) (by kernel_rfl) rfl rfl rfl (fun Lx => ?_) ?_
              · skip
                refine At.yes rfl rfl rfl rfl ?_
                refine At.load rfl (Ld.ownCell ag23 hb1 (hp).c1) rfl ?_
                refine At.ops0 ?_
                exact fun a ha => ⟨ha, rfl⟩
              refine At.wpcS (i := 6) (d := 57) (.int .i64 (k : Int)) (by kernel_rfl) rfl rfl rfl (fun Lx => ?_) ?_
              · skip
                refine At.yes rfl rfl rfl rfl ?_
                refine At.move rfl rfl ?_
                refine At.ops0 ?_
                exact fun a ha => ⟨ha, rfl⟩
              refine At.wpcS (i := 7) (d := 58) (.pointer (some ⟨vBlock p.dv, vOff p.dv + k * 2, none⟩)) (by kernel_rfl) rfl rfl rfl (fun Lx => ?_) ?_
              · skip
                refine At.yes rfl rfl rfl rfl ?_
                refine At.indexAddr (i := k) rfl rfl ((hp).datsAt).okL (lt_of_some hu1) el23 sz52 rfl ?_
                refine At.ops0 ?_
                exact fun a ha => ⟨ha, rfl⟩
              refine At.wpcS (i := 8) (d := 59) (.pointer (some ⟨vBlock p.dv, vOff p.dv + k * 2 + 0, none⟩)) (by kernel_rfl) rfl rfl rfl (fun Lx => ?_) ?_
              · skip
                refine At.yes rfl rfl rfl rfl ?_
                refine At.fieldAddr rfl fo52_0 rfl ?_
                refine At.ops0 ?_
                exact fun a ha => ⟨ha, rfl⟩
              refine At.wpcS (i := 9) (d := 60) (.string u1.nm) (by kernel_rfl) rfl rfl rfl (fun Lx => ?_) ?_
              · skip
                refine At.yes rfl rfl rfl rfl ?_
                refine At.load rfl (Ld.cell ag9 (cell_keep ((((hp).datsAt).row hu1).get (((hp).dat hu1)).c0) hB)) rfl ?_
                refine At.ops0 ?_
                exact fun a ha => ⟨ha, rfl⟩
              refine At.wpcS (i := 10) (d := 61) (.pointer (some ⟨b2, 0 + 1, none⟩)) (by kernel_rfl) rfl rfl rfl (fun Lx => ?_) ?_
              · skip
                refine At.yes rfl rfl rfl rfl ?_
                refine At.fieldAddr rfl fo31_1 rfl ?_
                refine At.ops0 ?_
                exact fun a ha => ⟨ha, rfl⟩
              refine At.wpcS (i := 11) (d := 62) (.string t.nm) (by kernel_rfl) rfl rfl rfl (fun Lx => ?_) ?_
              · skip
                refine At.yes rfl rfl rfl rfl ?_
                refine At.load rfl (Ld.ownCell ag9 hb2 (ht).c1) rfl ?_
                refine At.ops0 ?_
                exact fun a ha => ⟨ha, rfl⟩
              refine At.wpcS (i := 12) (d := 63) (.bool (decide (u1.nm = t.nm))) (by kernel_rfl) rfl rfl rfl (fun Lx => ?_) ?_
              · skip
                refine At.yes rfl rfl rfl rfl ?_
                refine At.eqS rfl rfl rfl ?_
                refine At.ops0 ?_
                exact fun a ha => ⟨ha, rfl⟩
              refine At.wpcS (i := 13) (d := 64) (.bool (decide (u1.nm = t.nm))) (by kernel_rfl) rfl rfl rfl (fun Lx => ?_) ?_
              · skip
                refine At.pickT rfl rfl rfl ?_
                refine At.ops0 ?_
                exact fun a ha => ⟨ha, rfl⟩
              refine At.wpcZ ?_
              refine At.thenN ?_
              refine At.cond (b := decide (u1.nm = t.nm)) rfl (fun hc4 => ?_) (fun hc4 => ?_)
              · skip
                have hc4' := of_decide_eq_true hc4
                refine At.seq ?_
                refine At.region ?_
                refine At.assign rfl rfl ?_
                refine At.ops0 ?_
                refine At.thenN ?_
                refine At.retc ?_
                refine At.inR ?_
                refine At.thenR ?_
                refine At.thenR ?_
                refine At.inR ?_
                refine At.thenR ?_
                refine At.doneR (ResV.tmp rfl ResV.nil) ?_
                exact ⟨congrArg Ending.returned (congrArg Value.bool (Eq.symm ((first_data hc1 hc2).trans (any_hit hu1 (by simp [hg6, hc4]))))), hB⟩
              · skip
                have hc4' := of_decide_eq_false hc4
                refine At.skip ?_
                refine At.inN ?_
                refine At.thenN ?_
                refine At.region ?_
                refine At.move rfl rfl ?_
                refine At.addI rfl rfl rfl (by omega) ?_
                refine At.assign rfl rfl ?_
                refine At.ops0 ?_
                refine At.thenN ?_
                exact fun a ha => ⟨(k + 1), ha.sub (Sub.cons rfl (Sub.cons rfl (Sub.cons rfl Sub.nil))), ⟨hB, hb1, hb2, (by omega), (next_no hn hu1 (by simp [hg6, hc4]))⟩, by first | omega | (dsimp only; omega)⟩
            · skip
              have hg6' := of_decide_eq_false hg6
              refine At.drawG (n := 14) mixed (by kernel_rfl) rfl (PanicOk.then (PanicOk.block (PanicOk.then (PanicOk.then (PanicOk.block (PanicOk.then PanicOk.body)))))) ?_
              have hB := Below.drewB hB
              have hb1 : _ := (show w5.drew.heap[b1]? = _ from hb1)
              have hb2 : _ := (show w5.drew.heap[b2]? = _ from hb2)
              refine At.wpcS (i := 0) (d := 51) (.pointer (some ⟨b2, 0 + 0, none⟩)) (by kernel_rfl) rfl rfl rfl (fun Lx => ?_) ?_
              · skip
                refine At.fieldAddr rfl fo31_0 rfl ?_
                refine At.ops0 ?_
                exact fun a ha => ⟨ha, rfl⟩
              refine At.wpcS (i := 1) (d := 52) (.int .i64 t.k) (by kernel_rfl) rfl rfl rfl (fun Lx => ?_) ?_
              · skip
                refine At.load rfl (Ld.ownCell ag3 hb2 (ht).c0) rfl ?_
                refine At.ops0 ?_
                exact fun a ha => ⟨ha, rfl⟩
              refine At.wpcS (i := 2) (d := 53) (.bool (decide (t.k = 4))) (by kernel_rfl) rfl rfl rfl (fun Lx => ?_) ?_
              · skip
                refine At.eqI rfl rfl rfl ?_
                refine At.ops0 ?_
                exact fun a ha => ⟨ha, rfl⟩
              refine At.set (d := 53) (u := .bool false) rfl (congrArg Value.bool hg6) ?_
              refine At.wpcS (i := 3) (d := 54) (.bool false) (by kernel_rfl) rfl rfl rfl (fun Lx => ?_) ?_
              · skip
                refine At.move rfl rfl ?_
                refine At.ops0 ?_
                exact fun a ha => ⟨ha, rfl⟩
              refine At.wpcS (i := 4) (d := 55) (undef) (by kernel_rfl) rfl rfl rfl (fun Lx => ?_) ?_
              · skip
                refine At.no rfl rfl rfl rfl rfl rfl rfl ?_
                refine At.ops0 ?_
                exact fun a ha => ⟨ha, rfl⟩
              refine At.wpcS (i := 5) (d := 56) (undef) (by kernel_rfl) rfl rfl rfl (fun Lx => ?_) ?_
              · skip
                refine At.no rfl rfl rfl rfl rfl rfl rfl ?_
                refine At.ops0 ?_
                exact fun a ha => ⟨ha, rfl⟩
              refine At.wpcS (i := 6) (d := 57) (undef) (by kernel_rfl) rfl rfl rfl (fun Lx => ?_) ?_
              · skip
                refine At.no rfl rfl rfl rfl rfl rfl rfl ?_
                refine At.ops0 ?_
                exact fun a ha => ⟨ha, rfl⟩
              refine At.wpcS (i := 7) (d := 58) (undef) (by kernel_rfl) rfl rfl rfl (fun Lx => ?_) ?_
              · skip
                refine At.no rfl rfl rfl rfl rfl rfl rfl ?_
                refine At.ops0 ?_
                exact fun a ha => ⟨ha, rfl⟩
              refine At.wpcS (i := 8) (d := 59) (undef) (by kernel_rfl) rfl rfl rfl (fun Lx => ?_) ?_
              · skip
                refine At.no rfl rfl rfl rfl rfl rfl rfl ?_
                refine At.ops0 ?_
                exact fun a ha => ⟨ha, rfl⟩
              refine At.wpcS (i := 9) (d := 60) (undef) (by kernel_rfl) rfl rfl rfl (fun Lx => ?_) ?_
              · skip
                refine At.no rfl rfl rfl rfl rfl rfl rfl ?_
                refine At.ops0 ?_
                exact fun a ha => ⟨ha, rfl⟩
              refine At.wpcS (i := 10) (d := 61) (undef) (by kernel_rfl) rfl rfl rfl (fun Lx => ?_) ?_
              · skip
                refine At.no rfl rfl rfl rfl rfl rfl rfl ?_
                refine At.ops0 ?_
                exact fun a ha => ⟨ha, rfl⟩
              refine At.wpcS (i := 11) (d := 62) (undef) (by kernel_rfl) rfl rfl rfl (fun Lx => ?_) ?_
              · skip
                refine At.no rfl rfl rfl rfl rfl rfl rfl ?_
                refine At.ops0 ?_
                exact fun a ha => ⟨ha, rfl⟩
              refine At.wpcS (i := 12) (d := 63) (undef) (by kernel_rfl) rfl rfl rfl (fun Lx => ?_) ?_
              · skip
                refine At.no rfl rfl rfl rfl rfl rfl rfl ?_
                refine At.ops0 ?_
                exact fun a ha => ⟨ha, rfl⟩
              refine At.wpcS (i := 13) (d := 64) (.bool false) (by kernel_rfl) rfl rfl rfl (fun Lx => ?_) ?_
              · skip
                refine At.pickF rfl rfl rfl ?_
                refine At.ops0 ?_
                exact fun a ha => ⟨ha, rfl⟩
              refine At.wpcZ ?_
              refine At.thenN ?_
              refine At.condF rfl ?_
              refine At.skip ?_
              refine At.inN ?_
              refine At.thenN ?_
              refine At.region ?_
              refine At.move rfl rfl ?_
              refine At.addI rfl rfl rfl (by omega) ?_
              refine At.assign rfl rfl ?_
              refine At.ops0 ?_
              refine At.thenN ?_
              obtain ⟨u1, hu1⟩ := some_of_lt (l := p.dats) (i := k) (by omega)
              exact fun a ha => ⟨(k + 1), ha.sub (Sub.cons rfl (Sub.cons rfl (Sub.cons rfl Sub.nil))), ⟨hB, hb1, hb2, (by omega), (next_no hn hu1 (by simp [hg6]))⟩, by first | omega | (dsimp only; omega)⟩
          · skip
            have hc3' := of_decide_eq_false hc3
            refine At.exit ?_
            refine At.thenE ?_
            refine At.thenE ?_
            refine At.inE ?_
            refine At.thenN ?_
            refine At.seq ?_
            refine At.region ?_
            refine At.assign rfl rfl ?_
            refine At.ops0 ?_
            refine At.thenN ?_
            refine At.retc ?_
            refine At.doneR (ResV.tmp rfl ResV.nil) ?_
            exact ⟨congrArg Ending.returned (congrArg Value.bool (Eq.symm ((first_data hc1 hc2).trans (any_step (by omega) hn)))), hB⟩
theorem handles_any (p : Pr) (t : Tm) (w : World) (hp : PrOk w p) (hz : PrSz p) (ht : TmOk w t) :
    Calls Try.prog 57 ([.agg p.cs, .agg t.cs] : List Value).toArray w fun e w' => e = .returned (.bool (handlerOk p.effs t)) ∧ Below w.heap.size w w' := by
  have hB := Below.refl w.heap.size w
  refine At.enter (N := 84) Try.func57 rfl rfl (by simp) [(0, .agg p.cs), (1, .agg t.cs)] (by simp) ?_
  refine At.seq ?_
  refine At.region ?_
  refine At.box rfl rfl (fun b1 w1 F1 => ?_)
  have gb1 := F1.ge hB
  have hb1 : w1.heap[b1]? = some (.cells p.cs 35) := F1.new
  replace hB := F1.below' hB
  refine At.box rfl rfl (fun b2 w2 F2 => ?_)
  have n_b1_b2 : b1 ≠ b2 := Nat.ne_of_lt (F2.lt hb1)
  have gb2 := F2.ge hB
  replace hb1 := F2.old hb1
  have hb2 : w2.heap[b2]? = some (.cells t.cs 33) := F2.new
  replace hB := F2.below' hB
  refine At.assign rfl rfl ?_
  refine At.ops0 ?_
  refine At.thenN ?_
  refine At.seq ?_
  refine At.region ?_
  refine At.load rfl (Ld.own ag35 (sz35.trans (congrArg some (hp).size.symm)) hb1) rfl ?_
  refine At.fieldAddr rfl fo33_2 rfl ?_
  refine At.load rfl (Ld.ownCell ag9 hb2 (ht).c2) rfl ?_
  refine At.call en17 rfl rfl (refHandled_any p t.nm _ ((hp).keep hB) (hp).hl.1) (fun e w3 hR => ?_)
  obtain ⟨rfl, hbl1⟩ := hR
  refine ⟨_, rfl, ?_⟩
  replace hb1 := Below.old hbl1 hb1
  replace hb2 := Below.old hbl1 hb2
  replace hB := Below.andThen hB hbl1
  refine At.move rfl rfl ?_
  refine At.extract rfl rfl rfl ?_
  refine At.extract rfl rfl rfl ?_
  refine At.alloc ze43 rfl (fun b3 w4 F3 => ?_)
  have n_b1_b3 : b1 ≠ b3 := Nat.ne_of_lt (F3.lt hb1)
  have n_b2_b3 : b2 ≠ b3 := Nat.ne_of_lt (F3.lt hb2)
  have gb3 := F3.ge hB
  replace hb1 := F3.old hb1
  replace hb2 := F3.old hb2
  have hb3 : w4.heap[b3]? = some (.cells #[.string (⟨#[]⟩ : ByteArray), (.slice none 0 0)] 43) := F3.new
  replace hB := F3.below' hB
  refine At.storeAll rfl rfl hb3 (sz43.trans (congrArg some ((hdE_ok hp t.nm)).size.symm)) ((hdE_ok hp t.nm)).size.symm ((hdE_ok hp t.nm)).one (fun w5 S1 => ?_)
  replace hb1 := S1.other hb1 n_b1_b3
  replace hb2 := S1.other hb2 n_b2_b3
  replace hb3 : w5.heap[b3]? = some (.cells (hdE (findHd p.effs t.nm)).cs 43) := S1.new
  replace hB := S1.below' hB gb3
  refine At.assign rfl rfl ?_
  refine At.ops0 ?_
  refine At.thenN ?_
  refine At.seq ?_
  refine At.seq ?_
  have hzh := hz.hdE t.nm
  refine At.region ?_
  refine At.move rfl rfl ?_
  refine At.not rfl rfl ?_
  refine At.move rfl rfl ?_
  refine At.cases ((!(findHd p.effs t.nm).isSome)) (fun hg1 => ?_) (fun hg1 => ?_)
  · skip
    refine At.set (d := 18) (u := .bool true) rfl (congrArg Value.bool hg1) ?_
    refine At.no rfl rfl rfl rfl rfl rfl rfl ?_
    refine At.no rfl rfl rfl rfl rfl rfl rfl ?_
    refine At.no rfl rfl rfl rfl rfl rfl rfl ?_
    refine At.no rfl rfl rfl rfl rfl rfl rfl ?_
    refine At.no rfl rfl rfl rfl rfl rfl rfl ?_
    refine At.no rfl rfl rfl rfl rfl rfl rfl ?_
    refine At.no rfl rfl rfl rfl rfl rfl rfl ?_
    refine At.no rfl rfl rfl rfl rfl rfl rfl ?_
    refine At.pickT rfl rfl rfl ?_
    refine At.move rfl rfl ?_
    refine At.no rfl rfl rfl rfl rfl rfl rfl ?_
    refine At.no rfl rfl rfl rfl rfl rfl rfl ?_
    refine At.no rfl rfl rfl rfl rfl rfl rfl ?_
    refine At.no rfl rfl rfl rfl rfl rfl rfl ?_
    refine At.no rfl rfl rfl rfl rfl rfl rfl ?_
    refine At.no rfl rfl rfl rfl rfl rfl rfl ?_
    refine At.pickT rfl rfl rfl ?_
    refine At.move rfl rfl ?_
    refine At.no rfl rfl rfl rfl rfl rfl rfl ?_
    refine At.no rfl rfl rfl rfl rfl rfl rfl ?_
    refine At.no rfl rfl rfl rfl rfl rfl rfl ?_
    refine At.no rfl rfl rfl rfl rfl rfl rfl ?_
    refine At.no rfl rfl rfl rfl rfl rfl rfl ?_
    refine At.no rfl rfl rfl rfl rfl rfl rfl ?_
    refine At.no rfl rfl rfl rfl rfl rfl rfl ?_
    refine At.pickT rfl rfl rfl ?_
    refine At.ops0 ?_
    refine At.thenN ?_
    refine At.condT rfl ?_
    refine At.seq ?_
    refine At.region ?_
    refine At.assign rfl rfl ?_
    refine At.ops0 ?_
    refine At.thenN ?_
    refine At.retc ?_
    refine At.thenR ?_
    refine At.doneR (ResV.tmp rfl ResV.nil) ?_
    exact ⟨congrArg Ending.returned (congrArg Value.bool (Eq.symm (handlerOk_ne (by simpa using hg1)))), hB⟩
  · skip
    refine At.set (d := 18) (u := .bool false) rfl (congrArg Value.bool hg1) ?_
    refine At.yes rfl rfl rfl rfl ?_
    refine At.fieldAddr rfl fo33_6 rfl ?_
    refine At.yes rfl rfl rfl rfl ?_
    refine At.load rfl (Ld.ownCell ag25 hb2 (ht).c6) rfl ?_
    refine At.yes rfl rfl rfl rfl ?_
    refine At.lenSl rfl ((ht).armsAt).okL el25 rfl ?_
    refine At.yes rfl rfl rfl rfl ?_
    refine At.fieldAddr rfl fo43_1 rfl ?_
    refine At.yes rfl rfl rfl rfl ?_
    refine At.load rfl (Ld.ownCell ag41 hb3 ((hdE_ok hp t.nm)).c1) rfl ?_
    refine At.yes rfl rfl rfl rfl ?_
    refine At.lenSl rfl (((hdE_ok hp t.nm)).opsAt).okL el41 rfl ?_
    refine At.yes rfl rfl rfl rfl ?_
    refine At.addI rfl rfl rfl (by omega) ?_
    refine At.yes rfl rfl rfl rfl ?_
    refine At.neI rfl rfl rfl ?_
    refine At.pickF rfl rfl rfl ?_
    refine At.move rfl rfl ?_
    refine At.cases ((!decide ((t.arms.length : Int) = (((hdE (findHd p.effs t.nm)).ops.length : Int) + 1)))) (fun hg2 => ?_) (fun hg2 => ?_)
    · skip
      refine At.set (d := 28) (u := .bool true) rfl (congrArg Value.bool hg2) ?_
      have hg2' := hg2; simp only [Bool.not_eq_true', Bool.not_eq_false', decide_eq_true_eq, decide_eq_false_iff_not] at hg2'
      refine At.no rfl rfl rfl rfl rfl rfl rfl ?_
      refine At.no rfl rfl rfl rfl rfl rfl rfl ?_
      refine At.no rfl rfl rfl rfl rfl rfl rfl ?_
      refine At.no rfl rfl rfl rfl rfl rfl rfl ?_
      refine At.no rfl rfl rfl rfl rfl rfl rfl ?_
      refine At.no rfl rfl rfl rfl rfl rfl rfl ?_
      refine At.pickT rfl rfl rfl ?_
      refine At.move rfl rfl ?_
      refine At.no rfl rfl rfl rfl rfl rfl rfl ?_
      refine At.no rfl rfl rfl rfl rfl rfl rfl ?_
      refine At.no rfl rfl rfl rfl rfl rfl rfl ?_
      refine At.no rfl rfl rfl rfl rfl rfl rfl ?_
      refine At.no rfl rfl rfl rfl rfl rfl rfl ?_
      refine At.no rfl rfl rfl rfl rfl rfl rfl ?_
      refine At.no rfl rfl rfl rfl rfl rfl rfl ?_
      refine At.pickT rfl rfl rfl ?_
      refine At.ops0 ?_
      refine At.thenN ?_
      refine At.condT rfl ?_
      refine At.seq ?_
      refine At.region ?_
      refine At.assign rfl rfl ?_
      refine At.ops0 ?_
      refine At.thenN ?_
      refine At.retc ?_
      refine At.thenR ?_
      refine At.doneR (ResV.tmp rfl ResV.nil) ?_
      exact ⟨congrArg Ending.returned (congrArg Value.bool (Eq.symm (handlerOk_len (by omega)))), hB⟩
    · skip
      refine At.set (d := 28) (u := .bool false) rfl (congrArg Value.bool hg2) ?_
      have hg2' := hg2; simp only [Bool.not_eq_true', Bool.not_eq_false', decide_eq_true_eq, decide_eq_false_iff_not] at hg2'
      refine At.yes rfl rfl rfl rfl ?_
      refine At.fieldAddr rfl fo33_6 rfl ?_
      refine At.yes rfl rfl rfl rfl ?_
      refine At.load rfl (Ld.ownCell ag25 hb2 (ht).c6) rfl ?_
      refine At.yes rfl rfl rfl rfl ?_
      obtain ⟨u1, hu1⟩ := some_of_lt (l := t.arms) (i := 0) (by omega)
      refine At.indexAddr (i := 0) rfl rfl ((ht).armsAt).okL (lt_of_some hu1) el25 sz71 rfl ?_
      refine At.yes rfl rfl rfl rfl ?_
      refine At.fieldAddr rfl fo71_0 rfl ?_
      refine At.yes rfl rfl rfl rfl ?_
      refine At.load rfl (Ld.cell ag9 (cell_keep ((((ht).armsAt).row hu1).get (((ht).arm hu1)).c0) hB)) rfl ?_
      refine At.yes rfl rfl rfl rfl ?_
      refine At.neS rfl rfl rfl ?_
      refine At.pickF rfl rfl rfl ?_
      refine At.move rfl rfl ?_
      refine At.cases ((!decide (u1.nm = (⟨#[114, 101, 116, 117, 114, 110]⟩ : ByteArray)))) (fun hg3 => ?_) (fun hg3 => ?_)
      · skip
        refine At.set (d := 36) (u := .bool true) rfl (congrArg Value.bool hg3) ?_
        have hg3' := hg3; simp only [Bool.not_eq_true', Bool.not_eq_false', decide_eq_true_eq, decide_eq_false_iff_not] at hg3'
        refine At.no rfl rfl rfl rfl rfl rfl rfl ?_
        refine At.no rfl rfl rfl rfl rfl rfl rfl ?_
        refine At.no rfl rfl rfl rfl rfl rfl rfl ?_
        refine At.no rfl rfl rfl rfl rfl rfl rfl ?_
        refine At.no rfl rfl rfl rfl rfl rfl rfl ?_
        refine At.no rfl rfl rfl rfl rfl rfl rfl ?_
        refine At.no rfl rfl rfl rfl rfl rfl rfl ?_
        refine At.pickT rfl rfl rfl ?_
        refine At.ops0 ?_
        refine At.thenN ?_
        refine At.condT rfl ?_
        refine At.seq ?_
        refine At.region ?_
        refine At.assign rfl rfl ?_
        refine At.ops0 ?_
        refine At.thenN ?_
        refine At.retc ?_
        refine At.thenR ?_
        refine At.doneR (ResV.tmp rfl ResV.nil) ?_
        exact ⟨congrArg Ending.returned (congrArg Value.bool (Eq.symm (handlerOk_nm hu1 (by simpa [ret_] using hg3')))), hB⟩
      · skip
        refine At.set (d := 36) (u := .bool false) rfl (congrArg Value.bool hg3) ?_
        have hg3' := hg3; simp only [Bool.not_eq_true', Bool.not_eq_false', decide_eq_true_eq, decide_eq_false_iff_not] at hg3'
        refine At.yes rfl rfl rfl rfl ?_
        refine At.fieldAddr rfl fo33_6 rfl ?_
        refine At.yes rfl rfl rfl rfl ?_
        refine At.load rfl (Ld.ownCell ag25 hb2 (ht).c6) rfl ?_
        refine At.yes rfl rfl rfl rfl ?_
        refine At.indexAddr (i := 0) rfl rfl ((ht).armsAt).okL (lt_of_some hu1) el25 sz71 rfl ?_
        refine At.yes rfl rfl rfl rfl ?_
        refine At.fieldAddr rfl fo71_1 rfl ?_
        refine At.yes rfl rfl rfl rfl ?_
        refine At.load rfl (Ld.cell ag27 (cell_keep ((((ht).armsAt).row hu1).get (((ht).arm hu1)).c1) hB)) rfl ?_
        refine At.yes rfl rfl rfl rfl ?_
        refine At.lenSl rfl ((((ht).arm hu1)).varsAt).ok el27 rfl ?_
        refine At.yes rfl rfl rfl rfl ?_
        refine At.neI rfl rfl rfl ?_
        refine At.pickF rfl rfl rfl ?_
        refine At.ops0 ?_
        refine At.thenN ?_
        refine At.cond (b := (!decide ((u1.vars.length : Int) = 1))) rfl (fun hc1 => ?_) (fun hc1 => ?_)
        · skip
          have hc1' := hc1; simp only [Bool.not_eq_true', Bool.not_eq_false', decide_eq_true_eq, decide_eq_false_iff_not] at hc1'
          refine At.seq ?_
          refine At.region ?_
          refine At.assign rfl rfl ?_
          refine At.ops0 ?_
          refine At.thenN ?_
          refine At.retc ?_
          refine At.thenR ?_
          refine At.doneR (ResV.tmp rfl ResV.nil) ?_
          exact ⟨congrArg Ending.returned (congrArg Value.bool (Eq.symm (handlerOk_vars hu1 (by omega)))), hB⟩
        · skip
          have hc1' := hc1; simp only [Bool.not_eq_true', Bool.not_eq_false', decide_eq_true_eq, decide_eq_false_iff_not] at hc1'
          refine At.skip ?_
          refine At.thenN ?_
          refine At.seq ?_
          refine At.seq ?_
          refine At.region ?_
          refine At.assign rfl rfl ?_
          refine At.ops0 ?_
          refine At.thenN ?_
          refine At.block ?_
          refine At.loop (Nat) (fun k => [(3, .pointer (some ⟨b2, 0, none⟩)), (5, .pointer (some ⟨b3, 0, none⟩)), (7, .int .i64 (k : Int))]) (fun k w6 => Below w.heap.size w w6 ∧ w6.heap[b2]? = some (.cells t.cs 33) ∧ w6.heap[b3]? = some (.cells (hdE (findHd p.effs t.nm)).cs 43) ∧ (k ≤ (hdE (findHd p.effs t.nm)).ops.length) ∧ (eq2 hdArm ((hdE (findHd p.effs t.nm)).ops.drop k) ((t.arms.drop 1).drop k) = eq2 hdArm (hdE (findHd p.effs t.nm)).ops (t.arms.drop 1))) (fun k => (hdE (findHd p.effs t.nm)).ops.length - k) (0 : Nat) (Sub.cons rfl (Sub.cons rfl (Sub.cons rfl Sub.nil))) ⟨hB, hb2, hb3, (Nat.zero_le _), (rfl)⟩ (fun k w6 hI => ?_)
          clear hB hb1 hb2 hb3
          obtain ⟨hB, hb2, hb3, hkb, hn⟩ := hI
          show At _ _ [(3, .pointer (some ⟨b2, 0, none⟩)), (5, .pointer (some ⟨b3, 0, none⟩)), (7, .int .i64 (k : Int))] _ _
          refine At.seq ?_
          refine At.seq ?_
          refine At.region ?_
          refine At.move rfl rfl ?_
          refine At.fieldAddr rfl fo43_1 rfl ?_
          refine At.load rfl (Ld.ownCell ag41 hb3 ((hdE_ok hp t.nm)).c1) rfl ?_
          refine At.lenSl rfl (((hdE_ok hp t.nm)).opsAt).okL el41 rfl ?_
          refine At.lss rfl rfl rfl ?_
          refine At.ops0 ?_
          refine At.thenN ?_
          refine At.cond (b := decide ((k : Int) < ((hdE (findHd p.effs t.nm)).ops.length : Int))) rfl (fun hc2 => ?_) (fun hc2 => ?_)
          · skip
            have hc2' := of_decide_eq_true hc2
            refine At.skip ?_
            refine At.thenN ?_
            refine At.seq ?_
            refine At.block ?_
            refine At.seq ?_
            refine At.region ?_
            refine At.fieldAddr rfl fo33_6 rfl ?_
            refine At.load rfl (Ld.ownCell ag25 hb2 (ht).c6) rfl ?_
            refine At.move rfl rfl ?_
            refine At.addI rfl rfl rfl (by omega) ?_
            obtain ⟨u2, hu2⟩ := some_of_lt (l := t.arms) (i := (k + 1)) (by omega)
            refine At.indexAddr (i := (k + 1)) rfl rfl ((ht).armsAt).okL (lt_of_some hu2) el25 sz71 rfl ?_
            refine At.load rfl (Ld.row ag71 (sz71.trans (congrArg some (((ht).arm hu2)).size.symm)) ((((ht).armsAt).row hu2).keep hB)) rfl ?_
            refine At.alloc ze71 rfl (fun b4 w7 F4 => ?_)
            have n_b2_b4 : b2 ≠ b4 := Nat.ne_of_lt (F4.lt hb2)
            have n_b3_b4 : b3 ≠ b4 := Nat.ne_of_lt (F4.lt hb3)
            have gb4 := F4.ge hB
            replace hb2 := F4.old hb2
            replace hb3 := F4.old hb3
            have hb4 : w7.heap[b4]? = some (.cells #[.string (⟨#[]⟩ : ByteArray), (.slice none 0 0), .int .i64 0, .int .i64 0, .string (⟨#[]⟩ : ByteArray), .string (⟨#[]⟩ : ByteArray), .int .i64 0, (.slice none 0 0), (.slice none 0 0), .int .i64 0, .string (⟨#[]⟩ : ByteArray), .int .i64 0, (.slice none 0 0), (.slice none 0 0), .int .i64 0, (.slice none 0 0), .int .i64 0, .int .i64 0, .string (⟨#[]⟩ : ByteArray), .int .i64 0, (.slice none 0 0), (.slice none 0 0), .int .i64 0] 71) := F4.new
            replace hB := F4.below' hB
            refine At.storeAll rfl rfl hb4 (sz71.trans (congrArg some (((ht).arm hu2)).size.symm)) (((ht).arm hu2)).size.symm (((ht).arm hu2)).one (fun w8 S2 => ?_)
            replace hb2 := S2.other hb2 n_b2_b4
            replace hb3 := S2.other hb3 n_b3_b4
            replace hb4 : w8.heap[b4]? = some (.cells u2.cs 71) := S2.new
            replace hB := S2.below' hB gb4
            refine At.ops0 ?_
            refine At.thenN ?_
            refine At.seq ?_
            obtain ⟨u3, hu3⟩ := some_of_lt (l := (hdE (findHd p.effs t.nm)).ops) (i := k) (by omega)
            refine At.cases ((!decide (u2.nm = u3.nm))) (fun hg4 => ?_) (fun hg4 => ?_)
            · skip
              have hg4' := hg4; simp only [Bool.not_eq_true', Bool.not_eq_false', decide_eq_true_eq, decide_eq_false_iff_not] at hg4'
              refine At.drawG (n := 26) mixed (by kernel_rfl) rfl (PanicOk.then (PanicOk.block (PanicOk.then (PanicOk.then (PanicOk.block (PanicOk.then PanicOk.body)))))) ?_
              have hB := Below.drewB hB
              have hb2 : _ := (show w8.drew.heap[b2]? = _ from hb2)
              have hb3 : _ := (show w8.drew.heap[b3]? = _ from hb3)
              have hb4 : _ := (show w8.drew.heap[b4]? = _ from hb4)
              refine At.wpcS (i := 0) (d := 58) (.pointer (some ⟨b4, 0 + 0, none⟩)) (by kernel_rfl) rfl rfl rfl (fun Lx => ?_) ?_
              · skip
                refine At.fieldAddr rfl fo71_0 rfl ?_
                refine At.ops0 ?_
                exact fun a ha => ⟨ha, rfl⟩
              refine At.wpcS (i := 1) (d := 59) (.string u2.nm) (by kernel_rfl) rfl rfl rfl (fun Lx => ?_) ?_
              · skip
                refine At.load rfl (Ld.ownCell ag9 hb4 (((ht).arm hu2)).c0) rfl ?_
                refine At.ops0 ?_
                exact fun a ha => ⟨ha, rfl⟩
              refine At.wpcS (i := 2) (d := 60) (.pointer (some ⟨b3, 0 + 1, none⟩)) (by kernel_rfl) rfl rfl rfl (fun Lx => ?_) ?_
              · skip
                refine At.fieldAddr rfl fo43_1 rfl ?_
                refine At.ops0 ?_
                exact fun a ha => ⟨ha, rfl⟩
              refine At.wpcS (i := 3) (d := 61) ((hdE (findHd p.effs t.nm)).ov) (by kernel_rfl) rfl rfl rfl (fun Lx => ?_) ?_
              · skip
                refine At.load rfl (Ld.ownCell ag41 hb3 ((hdE_ok hp t.nm)).c1) rfl ?_
                refine At.ops0 ?_
                exact fun a ha => ⟨ha, rfl⟩
              refine At.wpcS (i := 4) (d := 62) (.int .i64 (k : Int)) (by kernel_rfl) rfl rfl rfl (fun Lx => ?_) ?_
              · skip
                refine At.move rfl rfl ?_
                refine At.ops0 ?_
                exact fun a ha => ⟨ha, rfl⟩
              refine At.wpcS (i := 5) (d := 63) (.pointer (some ⟨vBlock ((hdE (findHd p.effs t.nm)).ov), vOff ((hdE (findHd p.effs t.nm)).ov) + k * 13, none⟩)) (by kernel_rfl) rfl rfl rfl (fun Lx => ?_) ?_
              · skip
                refine At.indexAddr (i := k) rfl rfl (((hdE_ok hp t.nm)).opsAt).okL (lt_of_some hu3) el41 sz45 rfl ?_
                refine At.ops0 ?_
                exact fun a ha => ⟨ha, rfl⟩
              refine At.wpcS (i := 6) (d := 64) (.pointer (some ⟨vBlock ((hdE (findHd p.effs t.nm)).ov), vOff ((hdE (findHd p.effs t.nm)).ov) + k * 13 + 0, none⟩)) (by kernel_rfl) rfl rfl rfl (fun Lx => ?_) ?_
              · skip
                refine At.fieldAddr rfl fo45_0 rfl ?_
                refine At.ops0 ?_
                exact fun a ha => ⟨ha, rfl⟩
              refine At.wpcS (i := 7) (d := 65) (.string u3.nm) (by kernel_rfl) rfl rfl rfl (fun Lx => ?_) ?_
              · skip
                refine At.load rfl (Ld.cell ag9 (cell_keep (((((hdE_ok hp t.nm)).opsAt).row hu3).get ((((hdE_ok hp t.nm)).op hu3)).c0) hB)) rfl ?_
                refine At.ops0 ?_
                exact fun a ha => ⟨ha, rfl⟩
              refine At.wpcS (i := 8) (d := 66) (.bool (!decide (u2.nm = u3.nm))) (by kernel_rfl) rfl rfl rfl (fun Lx => ?_) ?_
              · skip
                refine At.neS rfl rfl rfl ?_
                refine At.ops0 ?_
                exact fun a ha => ⟨ha, rfl⟩
              refine At.set (d := 66) (u := .bool true) rfl (congrArg Value.bool hg4) ?_
              refine At.wpcS (i := 9) (d := 67) (.bool true) (by kernel_rfl) rfl rfl rfl (fun Lx => ?_) ?_
              · skip
                refine At.move rfl rfl ?_
                refine At.ops0 ?_
                exact fun a ha => ⟨ha, rfl⟩
              refine At.wpcS (i := 10) (d := 68) (undef) (by kernel_rfl) rfl rfl rfl (fun Lx => ?_) ?_
              · skip
                refine At.no rfl rfl rfl rfl rfl rfl rfl ?_
                refine At.ops0 ?_
                exact fun a ha => ⟨ha, rfl⟩
              refine At.wpcS (i := 11) (d := 69) (undef) (by kernel_rfl) rfl rfl rfl (fun Lx => ?_) ?_
              · skip
                refine At.no rfl rfl rfl rfl rfl rfl rfl ?_
                refine At.ops0 ?_
                exact fun a ha => ⟨ha, rfl⟩
              refine At.wpcS (i := 12) (d := 70) (undef) (by kernel_rfl) rfl rfl rfl (fun Lx => ?_) ?_
              · skip
                refine At.no rfl rfl rfl rfl rfl rfl rfl ?_
                refine At.ops0 ?_
                exact fun a ha => ⟨ha, rfl⟩
              refine At.wpcS (i := 13) (d := 71) (undef) (by kernel_rfl) rfl rfl rfl (fun Lx => ?_) ?_
              · skip
                refine At.no rfl rfl rfl rfl rfl rfl rfl ?_
                refine At.ops0 ?_
                exact fun a ha => ⟨ha, rfl⟩
              refine At.wpcS (i := 14) (d := 72) (.bool true) (by kernel_rfl) rfl rfl rfl (fun Lx => ?_) ?_
              · skip
                refine At.pickT rfl rfl rfl ?_
                refine At.ops0 ?_
                exact fun a ha => ⟨ha, rfl⟩
              refine At.wpcS (i := 15) (d := 73) (.bool true) (by kernel_rfl) rfl rfl rfl (fun Lx => ?_) ?_
              · skip
                refine At.move rfl rfl ?_
                refine At.ops0 ?_
                exact fun a ha => ⟨ha, rfl⟩
              refine At.wpcS (i := 16) (d := 74) (undef) (by kernel_rfl) rfl rfl rfl (fun Lx => ?_) ?_
              · skip
                refine At.no rfl rfl rfl rfl rfl rfl rfl ?_
                refine At.ops0 ?_
                exact fun a ha => ⟨ha, rfl⟩
              refine At.wpcS (i := 17) (d := 75) (undef) (by kernel_rfl) rfl rfl rfl (fun Lx => ?_) ?_
              · skip
                refine At.no rfl rfl rfl rfl rfl rfl rfl ?_
                refine At.ops0 ?_
                exact fun a ha => ⟨ha, rfl⟩
              refine At.wpcS (i := 18) (d := 76) (undef) (by kernel_rfl) rfl rfl rfl (fun Lx => ?_) ?_
              · skip
                refine At.no rfl rfl rfl rfl rfl rfl rfl ?_
                refine At.ops0 ?_
                exact fun a ha => ⟨ha, rfl⟩
              refine At.wpcS (i := 19) (d := 77) (undef) (by kernel_rfl) rfl rfl rfl (fun Lx => ?_) ?_
              · skip
                refine At.no rfl rfl rfl rfl rfl rfl rfl ?_
                refine At.ops0 ?_
                exact fun a ha => ⟨ha, rfl⟩
              refine At.wpcS (i := 20) (d := 78) (undef) (by kernel_rfl) rfl rfl rfl (fun Lx => ?_) ?_
              · skip
                refine At.no rfl rfl rfl rfl rfl rfl rfl ?_
                refine At.ops0 ?_
                exact fun a ha => ⟨ha, rfl⟩
              refine At.wpcS (i := 21) (d := 79) (undef) (by kernel_rfl) rfl rfl rfl (fun Lx => ?_) ?_
              · skip
                refine At.no rfl rfl rfl rfl rfl rfl rfl ?_
                refine At.ops0 ?_
                exact fun a ha => ⟨ha, rfl⟩
              refine At.wpcS (i := 22) (d := 80) (undef) (by kernel_rfl) rfl rfl rfl (fun Lx => ?_) ?_
              · skip
                refine At.no rfl rfl rfl rfl rfl rfl rfl ?_
                refine At.ops0 ?_
                exact fun a ha => ⟨ha, rfl⟩
              refine At.wpcS (i := 23) (d := 81) (undef) (by kernel_rfl) rfl rfl rfl (fun Lx => ?_) ?_
              · skip
                refine At.no rfl rfl rfl rfl rfl rfl rfl ?_
                refine At.ops0 ?_
                exact fun a ha => ⟨ha, rfl⟩
              refine At.wpcS (i := 24) (d := 82) (undef) (by kernel_rfl) rfl rfl rfl (fun Lx => ?_) ?_
              · skip
                refine At.no rfl rfl rfl rfl rfl rfl rfl ?_
                refine At.ops0 ?_
                exact fun a ha => ⟨ha, rfl⟩
              refine At.wpcS (i := 25) (d := 83) (.bool true) (by kernel_rfl) rfl rfl rfl (fun Lx => ?_) ?_
              · skip
                refine At.pickT rfl rfl rfl ?_
                refine At.ops0 ?_
                exact fun a ha => ⟨ha, rfl⟩
              refine At.wpcZ ?_
              refine At.thenN ?_
              refine At.condT rfl ?_
              refine At.seq ?_
              refine At.region ?_
              refine At.assign rfl rfl ?_
              refine At.ops0 ?_
              refine At.thenN ?_
              refine At.retc ?_
              refine At.inR ?_
              refine At.thenR ?_
              refine At.thenR ?_
              refine At.inR ?_
              refine At.thenR ?_
              refine At.doneR (ResV.tmp rfl ResV.nil) ?_
              have hgo := handlerOk_go (effs := p.effs) (t := t) hu1 (by simpa using hg1) (by simpa [ret_] using hg3') (by omega)
              have hdr : (t.arms.drop 1)[k]? = some u2 := by rw [List.getElem?_drop, Nat.add_comm]; exact hu2
              have hna : hdArm u3 u2 = false := hdArm_nm (by simpa using hg4')
              exact ⟨congrArg Ending.returned (congrArg Value.bool (Eq.symm (by rw [hgo, ← hn, eq2_step hu3 hdr, hna]; rfl))), hB⟩
            · skip
              have hg4' := hg4; simp only [Bool.not_eq_true', Bool.not_eq_false', decide_eq_true_eq, decide_eq_false_iff_not] at hg4'
              refine At.cases ((!decide ((u2.vars.length : Int) = 2))) (fun hg5 => ?_) (fun hg5 => ?_)
              · skip
                have hg5' := hg5; simp only [Bool.not_eq_true', Bool.not_eq_false', decide_eq_true_eq, decide_eq_false_iff_not] at hg5'
                refine At.drawG (n := 26) mixed (by kernel_rfl) rfl (PanicOk.then (PanicOk.block (PanicOk.then (PanicOk.then (PanicOk.block (PanicOk.then PanicOk.body)))))) ?_
                have hB := Below.drewB hB
                have hb2 : _ := (show w8.drew.heap[b2]? = _ from hb2)
                have hb3 : _ := (show w8.drew.heap[b3]? = _ from hb3)
                have hb4 : _ := (show w8.drew.heap[b4]? = _ from hb4)
                refine At.wpcS (i := 0) (d := 58) (.pointer (some ⟨b4, 0 + 0, none⟩)) (by kernel_rfl) rfl rfl rfl (fun Lx => ?_) ?_
                · skip
                  refine At.fieldAddr rfl fo71_0 rfl ?_
                  refine At.ops0 ?_
                  exact fun a ha => ⟨ha, rfl⟩
                refine At.wpcS (i := 1) (d := 59) (.string u2.nm) (by kernel_rfl) rfl rfl rfl (fun Lx => ?_) ?_
                · skip
                  refine At.load rfl (Ld.ownCell ag9 hb4 (((ht).arm hu2)).c0) rfl ?_
                  refine At.ops0 ?_
                  exact fun a ha => ⟨ha, rfl⟩
                refine At.wpcS (i := 2) (d := 60) (.pointer (some ⟨b3, 0 + 1, none⟩)) (by kernel_rfl) rfl rfl rfl (fun Lx => ?_) ?_
                · skip
                  refine At.fieldAddr rfl fo43_1 rfl ?_
                  refine At.ops0 ?_
                  exact fun a ha => ⟨ha, rfl⟩
                refine At.wpcS (i := 3) (d := 61) ((hdE (findHd p.effs t.nm)).ov) (by kernel_rfl) rfl rfl rfl (fun Lx => ?_) ?_
                · skip
                  refine At.load rfl (Ld.ownCell ag41 hb3 ((hdE_ok hp t.nm)).c1) rfl ?_
                  refine At.ops0 ?_
                  exact fun a ha => ⟨ha, rfl⟩
                refine At.wpcS (i := 4) (d := 62) (.int .i64 (k : Int)) (by kernel_rfl) rfl rfl rfl (fun Lx => ?_) ?_
                · skip
                  refine At.move rfl rfl ?_
                  refine At.ops0 ?_
                  exact fun a ha => ⟨ha, rfl⟩
                refine At.wpcS (i := 5) (d := 63) (.pointer (some ⟨vBlock ((hdE (findHd p.effs t.nm)).ov), vOff ((hdE (findHd p.effs t.nm)).ov) + k * 13, none⟩)) (by kernel_rfl) rfl rfl rfl (fun Lx => ?_) ?_
                · skip
                  refine At.indexAddr (i := k) rfl rfl (((hdE_ok hp t.nm)).opsAt).okL (lt_of_some hu3) el41 sz45 rfl ?_
                  refine At.ops0 ?_
                  exact fun a ha => ⟨ha, rfl⟩
                refine At.wpcS (i := 6) (d := 64) (.pointer (some ⟨vBlock ((hdE (findHd p.effs t.nm)).ov), vOff ((hdE (findHd p.effs t.nm)).ov) + k * 13 + 0, none⟩)) (by kernel_rfl) rfl rfl rfl (fun Lx => ?_) ?_
                · skip
                  refine At.fieldAddr rfl fo45_0 rfl ?_
                  refine At.ops0 ?_
                  exact fun a ha => ⟨ha, rfl⟩
                refine At.wpcS (i := 7) (d := 65) (.string u3.nm) (by kernel_rfl) rfl rfl rfl (fun Lx => ?_) ?_
                · skip
                  refine At.load rfl (Ld.cell ag9 (cell_keep (((((hdE_ok hp t.nm)).opsAt).row hu3).get ((((hdE_ok hp t.nm)).op hu3)).c0) hB)) rfl ?_
                  refine At.ops0 ?_
                  exact fun a ha => ⟨ha, rfl⟩
                refine At.wpcS (i := 8) (d := 66) (.bool (!decide (u2.nm = u3.nm))) (by kernel_rfl) rfl rfl rfl (fun Lx => ?_) ?_
                · skip
                  refine At.neS rfl rfl rfl ?_
                  refine At.ops0 ?_
                  exact fun a ha => ⟨ha, rfl⟩
                refine At.set (d := 66) (u := .bool false) rfl (congrArg Value.bool hg4) ?_
                refine At.wpcS (i := 9) (d := 67) (.bool false) (by kernel_rfl) rfl rfl rfl (fun Lx => ?_) ?_
                · skip
                  refine At.move rfl rfl ?_
                  refine At.ops0 ?_
                  exact fun a ha => ⟨ha, rfl⟩
                refine At.wpcS (i := 10) (d := 68) (.pointer (some ⟨b4, 0 + 1, none⟩)) (by kernel_rfl) rfl rfl rfl (fun Lx => ?_) ?_
                · skip
                  refine At.yes rfl rfl rfl rfl ?_
                  refine At.fieldAddr rfl fo71_1 rfl ?_
                  refine At.ops0 ?_
                  exact fun a ha => ⟨ha, rfl⟩
                refine At.wpcS (i := 11) (d := 69) (u2.vv) (by kernel_rfl) rfl rfl rfl (fun Lx => ?_) ?_
                · skip
                  refine At.yes rfl rfl rfl rfl ?_
                  refine At.load rfl (Ld.ownCell ag27 hb4 (((ht).arm hu2)).c1) rfl ?_
                  refine At.ops0 ?_
                  exact fun a ha => ⟨ha, rfl⟩
                refine At.wpcS (i := 12) (d := 70) (.int .i64 (u2.vars.length : Int)) (by kernel_rfl) rfl rfl rfl (fun Lx => ?_) ?_
                · skip
                  refine At.yes rfl rfl rfl rfl ?_
                  refine At.lenSl rfl ((((ht).arm hu2)).varsAt).ok el27 rfl ?_
                  refine At.ops0 ?_
                  exact fun a ha => ⟨ha, rfl⟩
                refine At.wpcS (i := 13) (d := 71) (.bool (!decide ((u2.vars.length : Int) = 2))) (by kernel_rfl) rfl rfl rfl (fun Lx => ?_) ?_
                · skip
                  refine At.yes rfl rfl rfl rfl ?_
                  refine At.neI rfl rfl rfl ?_
                  refine At.ops0 ?_
                  exact fun a ha => ⟨ha, rfl⟩
                refine At.set (d := 71) (u := .bool true) rfl (congrArg Value.bool hg5) ?_
                refine At.wpcS (i := 14) (d := 72) (.bool true) (by kernel_rfl) rfl rfl rfl (fun Lx => ?_) ?_
                · skip
                  refine At.pickF rfl rfl rfl ?_
                  refine At.ops0 ?_
                  exact fun a ha => ⟨ha, rfl⟩
                refine At.wpcS (i := 15) (d := 73) (.bool true) (by kernel_rfl) rfl rfl rfl (fun Lx => ?_) ?_
                · skip
                  refine At.move rfl rfl ?_
                  refine At.ops0 ?_
                  exact fun a ha => ⟨ha, rfl⟩
                refine At.wpcS (i := 16) (d := 74) (undef) (by kernel_rfl) rfl rfl rfl (fun Lx => ?_) ?_
                · skip
                  refine At.no rfl rfl rfl rfl rfl rfl rfl ?_
                  refine At.ops0 ?_
                  exact fun a ha => ⟨ha, rfl⟩
                refine At.wpcS (i := 17) (d := 75) (undef) (by kernel_rfl) rfl rfl rfl (fun Lx => ?_) ?_
                · skip
                  refine At.no rfl rfl rfl rfl rfl rfl rfl ?_
                  refine At.ops0 ?_
                  exact fun a ha => ⟨ha, rfl⟩
                refine At.wpcS (i := 18) (d := 76) (undef) (by kernel_rfl) rfl rfl rfl (fun Lx => ?_) ?_
                · skip
                  refine At.no rfl rfl rfl rfl rfl rfl rfl ?_
                  refine At.ops0 ?_
                  exact fun a ha => ⟨ha, rfl⟩
                refine At.wpcS (i := 19) (d := 77) (undef) (by kernel_rfl) rfl rfl rfl (fun Lx => ?_) ?_
                · skip
                  refine At.no rfl rfl rfl rfl rfl rfl rfl ?_
                  refine At.ops0 ?_
                  exact fun a ha => ⟨ha, rfl⟩
                refine At.wpcS (i := 20) (d := 78) (undef) (by kernel_rfl) rfl rfl rfl (fun Lx => ?_) ?_
                · skip
                  refine At.no rfl rfl rfl rfl rfl rfl rfl ?_
                  refine At.ops0 ?_
                  exact fun a ha => ⟨ha, rfl⟩
                refine At.wpcS (i := 21) (d := 79) (undef) (by kernel_rfl) rfl rfl rfl (fun Lx => ?_) ?_
                · skip
                  refine At.no rfl rfl rfl rfl rfl rfl rfl ?_
                  refine At.ops0 ?_
                  exact fun a ha => ⟨ha, rfl⟩
                refine At.wpcS (i := 22) (d := 80) (undef) (by kernel_rfl) rfl rfl rfl (fun Lx => ?_) ?_
                · skip
                  refine At.no rfl rfl rfl rfl rfl rfl rfl ?_
                  refine At.ops0 ?_
                  exact fun a ha => ⟨ha, rfl⟩
                refine At.wpcS (i := 23) (d := 81) (undef) (by kernel_rfl) rfl rfl rfl (fun Lx => ?_) ?_
                · skip
                  refine At.no rfl rfl rfl rfl rfl rfl rfl ?_
                  refine At.ops0 ?_
                  exact fun a ha => ⟨ha, rfl⟩
                refine At.wpcS (i := 24) (d := 82) (undef) (by kernel_rfl) rfl rfl rfl (fun Lx => ?_) ?_
                · skip
                  refine At.no rfl rfl rfl rfl rfl rfl rfl ?_
                  refine At.ops0 ?_
                  exact fun a ha => ⟨ha, rfl⟩
                refine At.wpcS (i := 25) (d := 83) (.bool true) (by kernel_rfl) rfl rfl rfl (fun Lx => ?_) ?_
                · skip
                  refine At.pickT rfl rfl rfl ?_
                  refine At.ops0 ?_
                  exact fun a ha => ⟨ha, rfl⟩
                refine At.wpcZ ?_
                refine At.thenN ?_
                refine At.condT rfl ?_
                refine At.seq ?_
                refine At.region ?_
                refine At.assign rfl rfl ?_
                refine At.ops0 ?_
                refine At.thenN ?_
                refine At.retc ?_
                refine At.inR ?_
                refine At.thenR ?_
                refine At.thenR ?_
                refine At.inR ?_
                refine At.thenR ?_
                refine At.doneR (ResV.tmp rfl ResV.nil) ?_
                have hgo := handlerOk_go (effs := p.effs) (t := t) hu1 (by simpa using hg1) (by simpa [ret_] using hg3') (by omega)
                have hdr : (t.arms.drop 1)[k]? = some u2 := by rw [List.getElem?_drop, Nat.add_comm]; exact hu2
                have hna : hdArm u3 u2 = false := hdArm_len (by omega)
                exact ⟨congrArg Ending.returned (congrArg Value.bool (Eq.symm (by rw [hgo, ← hn, eq2_step hu3 hdr, hna]; rfl))), hB⟩
              · skip
                have hg5' := hg5; simp only [Bool.not_eq_true', Bool.not_eq_false', decide_eq_true_eq, decide_eq_false_iff_not] at hg5'
                obtain ⟨u4, hu4⟩ := some_of_lt (l := u2.vars) (i := 0) (by omega)
                obtain ⟨u5, hu5⟩ := some_of_lt (l := u2.vars) (i := 1) (by omega)
                refine At.drawG (n := 26) mixed (by kernel_rfl) rfl (PanicOk.then (PanicOk.block (PanicOk.then (PanicOk.then (PanicOk.block (PanicOk.then PanicOk.body)))))) ?_
                have hB := Below.drewB hB
                have hb2 : _ := (show w8.drew.heap[b2]? = _ from hb2)
                have hb3 : _ := (show w8.drew.heap[b3]? = _ from hb3)
                have hb4 : _ := (show w8.drew.heap[b4]? = _ from hb4)
                refine At.wpcS (i := 0) (d := 58) (.pointer (some ⟨b4, 0 + 0, none⟩)) (by kernel_rfl) rfl rfl rfl (fun Lx => ?_) ?_
                · skip
                  refine At.fieldAddr rfl fo71_0 rfl ?_
                  refine At.ops0 ?_
                  exact fun a ha => ⟨ha, rfl⟩
                refine At.wpcS (i := 1) (d := 59) (.string u2.nm) (by kernel_rfl) rfl rfl rfl (fun Lx => ?_) ?_
                · skip
                  refine At.load rfl (Ld.ownCell ag9 hb4 (((ht).arm hu2)).c0) rfl ?_
                  refine At.ops0 ?_
                  exact fun a ha => ⟨ha, rfl⟩
                refine At.wpcS (i := 2) (d := 60) (.pointer (some ⟨b3, 0 + 1, none⟩)) (by kernel_rfl) rfl rfl rfl (fun Lx => ?_) ?_
                · skip
                  refine At.fieldAddr rfl fo43_1 rfl ?_
                  refine At.ops0 ?_
                  exact fun a ha => ⟨ha, rfl⟩
                refine At.wpcS (i := 3) (d := 61) ((hdE (findHd p.effs t.nm)).ov) (by kernel_rfl) rfl rfl rfl (fun Lx => ?_) ?_
                · skip
                  refine At.load rfl (Ld.ownCell ag41 hb3 ((hdE_ok hp t.nm)).c1) rfl ?_
                  refine At.ops0 ?_
                  exact fun a ha => ⟨ha, rfl⟩
                refine At.wpcS (i := 4) (d := 62) (.int .i64 (k : Int)) (by kernel_rfl) rfl rfl rfl (fun Lx => ?_) ?_
                · skip
                  refine At.move rfl rfl ?_
                  refine At.ops0 ?_
                  exact fun a ha => ⟨ha, rfl⟩
                refine At.wpcS (i := 5) (d := 63) (.pointer (some ⟨vBlock ((hdE (findHd p.effs t.nm)).ov), vOff ((hdE (findHd p.effs t.nm)).ov) + k * 13, none⟩)) (by kernel_rfl) rfl rfl rfl (fun Lx => ?_) ?_
                · skip
                  refine At.indexAddr (i := k) rfl rfl (((hdE_ok hp t.nm)).opsAt).okL (lt_of_some hu3) el41 sz45 rfl ?_
                  refine At.ops0 ?_
                  exact fun a ha => ⟨ha, rfl⟩
                refine At.wpcS (i := 6) (d := 64) (.pointer (some ⟨vBlock ((hdE (findHd p.effs t.nm)).ov), vOff ((hdE (findHd p.effs t.nm)).ov) + k * 13 + 0, none⟩)) (by kernel_rfl) rfl rfl rfl (fun Lx => ?_) ?_
                · skip
                  refine At.fieldAddr rfl fo45_0 rfl ?_
                  refine At.ops0 ?_
                  exact fun a ha => ⟨ha, rfl⟩
                refine At.wpcS (i := 7) (d := 65) (.string u3.nm) (by kernel_rfl) rfl rfl rfl (fun Lx => ?_) ?_
                · skip
                  refine At.load rfl (Ld.cell ag9 (cell_keep (((((hdE_ok hp t.nm)).opsAt).row hu3).get ((((hdE_ok hp t.nm)).op hu3)).c0) hB)) rfl ?_
                  refine At.ops0 ?_
                  exact fun a ha => ⟨ha, rfl⟩
                refine At.wpcS (i := 8) (d := 66) (.bool (!decide (u2.nm = u3.nm))) (by kernel_rfl) rfl rfl rfl (fun Lx => ?_) ?_
                · skip
                  refine At.neS rfl rfl rfl ?_
                  refine At.ops0 ?_
                  exact fun a ha => ⟨ha, rfl⟩
                refine At.set (d := 66) (u := .bool false) rfl (congrArg Value.bool hg4) ?_
                refine At.wpcS (i := 9) (d := 67) (.bool false) (by kernel_rfl) rfl rfl rfl (fun Lx => ?_) ?_
                · skip
                  refine At.move rfl rfl ?_
                  refine At.ops0 ?_
                  exact fun a ha => ⟨ha, rfl⟩
                refine At.wpcS (i := 10) (d := 68) (.pointer (some ⟨b4, 0 + 1, none⟩)) (by kernel_rfl) rfl rfl rfl (fun Lx => ?_) ?_
                · skip
                  refine At.yes rfl rfl rfl rfl ?_
                  refine At.fieldAddr rfl fo71_1 rfl ?_
                  refine At.ops0 ?_
                  exact fun a ha => ⟨ha, rfl⟩
                refine At.wpcS (i := 11) (d := 69) (u2.vv) (by kernel_rfl) rfl rfl rfl (fun Lx => ?_) ?_
                · skip
                  refine At.yes rfl rfl rfl rfl ?_
                  refine At.load rfl (Ld.ownCell ag27 hb4 (((ht).arm hu2)).c1) rfl ?_
                  refine At.ops0 ?_
                  exact fun a ha => ⟨ha, rfl⟩
                refine At.wpcS (i := 12) (d := 70) (.int .i64 (u2.vars.length : Int)) (by kernel_rfl) rfl rfl rfl (fun Lx => ?_) ?_
                · skip
                  refine At.yes rfl rfl rfl rfl ?_
                  refine At.lenSl rfl ((((ht).arm hu2)).varsAt).ok el27 rfl ?_
                  refine At.ops0 ?_
                  exact fun a ha => ⟨ha, rfl⟩
                refine At.wpcS (i := 13) (d := 71) (.bool (!decide ((u2.vars.length : Int) = 2))) (by kernel_rfl) rfl rfl rfl (fun Lx => ?_) ?_
                · skip
                  refine At.yes rfl rfl rfl rfl ?_
                  refine At.neI rfl rfl rfl ?_
                  refine At.ops0 ?_
                  exact fun a ha => ⟨ha, rfl⟩
                refine At.set (d := 71) (u := .bool false) rfl (congrArg Value.bool hg5) ?_
                refine At.wpcS (i := 14) (d := 72) (.bool false) (by kernel_rfl) rfl rfl rfl (fun Lx => ?_) ?_
                · skip
                  refine At.pickF rfl rfl rfl ?_
                  refine At.ops0 ?_
                  exact fun a ha => ⟨ha, rfl⟩
                refine At.wpcS (i := 15) (d := 73) (.bool false) (by kernel_rfl) rfl rfl rfl (fun Lx => ?_) ?_
                · skip
                  refine At.move rfl rfl ?_
                  refine At.ops0 ?_
                  exact fun a ha => ⟨ha, rfl⟩
                refine At.wpcS (i := 16) (d := 74) (.pointer (some ⟨b4, 0 + 1, none⟩)) (by kernel_rfl) rfl rfl rfl (fun Lx => ?_) ?_
                · skip
                  refine At.yes rfl rfl rfl rfl ?_
                  refine At.fieldAddr rfl fo71_1 rfl ?_
                  refine At.ops0 ?_
                  exact fun a ha => ⟨ha, rfl⟩
                refine At.wpcS (i := 17) (d := 75) (u2.vv) (by kernel_rfl) rfl rfl rfl (fun Lx => ?_) ?_
                · skip
                  refine At.yes rfl rfl rfl rfl ?_
                  refine At.load rfl (Ld.ownCell ag27 hb4 (((ht).arm hu2)).c1) rfl ?_
                  refine At.ops0 ?_
                  exact fun a ha => ⟨ha, rfl⟩
                refine At.wpcS (i := 18) (d := 76) (.pointer (some ⟨vBlock u2.vv, vOff u2.vv + 0 * 1, none⟩)) (by kernel_rfl) rfl rfl rfl (fun Lx => ?_) ?_
                · skip
                  refine At.yes rfl rfl rfl rfl ?_
                  refine At.indexAddr (i := 0) rfl rfl ((((ht).arm hu2)).varsAt).ok (lt_of_some hu4) el27 sz9 rfl ?_
                  refine At.ops0 ?_
                  exact fun a ha => ⟨ha, rfl⟩
                refine At.wpcS (i := 19) (d := 77) (.string u4) (by kernel_rfl) rfl rfl rfl (fun Lx => ?_) ?_
                · skip
                  refine At.yes rfl rfl rfl rfl ?_
                  refine At.load rfl (Ld.cell ag9 (cell_keep (((((ht).arm hu2)).varsAt).get hu4) hB)) rfl ?_
                  refine At.ops0 ?_
                  exact fun a ha => ⟨ha, rfl⟩
                refine At.wpcS (i := 20) (d := 78) (.pointer (some ⟨b4, 0 + 1, none⟩)) (by kernel_rfl) rfl rfl rfl (fun Lx => ?_) ?_
                · skip
                  refine At.yes rfl rfl rfl rfl ?_
                  refine At.fieldAddr rfl fo71_1 rfl ?_
                  refine At.ops0 ?_
                  exact fun a ha => ⟨ha, rfl⟩
                refine At.wpcS (i := 21) (d := 79) (u2.vv) (by kernel_rfl) rfl rfl rfl (fun Lx => ?_) ?_
                · skip
                  refine At.yes rfl rfl rfl rfl ?_
                  refine At.load rfl (Ld.ownCell ag27 hb4 (((ht).arm hu2)).c1) rfl ?_
                  refine At.ops0 ?_
                  exact fun a ha => ⟨ha, rfl⟩
                refine At.wpcS (i := 22) (d := 80) (.pointer (some ⟨vBlock u2.vv, vOff u2.vv + 1 * 1, none⟩)) (by kernel_rfl) rfl rfl rfl (fun Lx => ?_) ?_
                · skip
                  refine At.yes rfl rfl rfl rfl ?_
                  refine At.indexAddr (i := 1) rfl rfl ((((ht).arm hu2)).varsAt).ok (lt_of_some hu5) el27 sz9 rfl ?_
                  refine At.ops0 ?_
                  exact fun a ha => ⟨ha, rfl⟩
                refine At.wpcS (i := 23) (d := 81) (.string u5) (by kernel_rfl) rfl rfl rfl (fun Lx => ?_) ?_
                · skip
                  refine At.yes rfl rfl rfl rfl ?_
                  refine At.load rfl (Ld.cell ag9 (cell_keep (((((ht).arm hu2)).varsAt).get hu5) hB)) rfl ?_
                  refine At.ops0 ?_
                  exact fun a ha => ⟨ha, rfl⟩
                refine At.wpcS (i := 24) (d := 82) (.bool (decide (u4 = u5))) (by kernel_rfl) rfl rfl rfl (fun Lx => ?_) ?_
                · skip
                  refine At.yes rfl rfl rfl rfl ?_
                  refine At.eqS rfl rfl rfl ?_
                  refine At.ops0 ?_
                  exact fun a ha => ⟨ha, rfl⟩
                refine At.wpcS (i := 25) (d := 83) (.bool (decide (u4 = u5))) (by kernel_rfl) rfl rfl rfl (fun Lx => ?_) ?_
                · skip
                  refine At.pickF rfl rfl rfl ?_
                  refine At.ops0 ?_
                  exact fun a ha => ⟨ha, rfl⟩
                refine At.wpcZ ?_
                refine At.thenN ?_
                refine At.cond (b := decide (u4 = u5)) rfl (fun hc3 => ?_) (fun hc3 => ?_)
                · skip
                  have hc3' := of_decide_eq_true hc3
                  refine At.seq ?_
                  refine At.region ?_
                  refine At.assign rfl rfl ?_
                  refine At.ops0 ?_
                  refine At.thenN ?_
                  refine At.retc ?_
                  refine At.inR ?_
                  refine At.thenR ?_
                  refine At.thenR ?_
                  refine At.inR ?_
                  refine At.thenR ?_
                  refine At.doneR (ResV.tmp rfl ResV.nil) ?_
                  have hgo := handlerOk_go (effs := p.effs) (t := t) hu1 (by simpa using hg1) (by simpa [ret_] using hg3') (by omega)
                  have hdr : (t.arms.drop 1)[k]? = some u2 := by rw [List.getElem?_drop, Nat.add_comm]; exact hu2
                  have hna : hdArm u3 u2 = false := (hdArm_eq (by omega) hu4 hu5).trans (by simp [of_decide_eq_true hc3])
                  exact ⟨congrArg Ending.returned (congrArg Value.bool (Eq.symm (by rw [hgo, ← hn, eq2_step hu3 hdr, hna]; rfl))), hB⟩
                · skip
                  have hc3' := of_decide_eq_false hc3
                  refine At.skip ?_
                  refine At.inN ?_
                  refine At.thenN ?_
                  refine At.region ?_
                  refine At.move rfl rfl ?_
                  refine At.addI rfl rfl rfl (by omega) ?_
                  refine At.assign rfl rfl ?_
                  refine At.ops0 ?_
                  refine At.thenN ?_
                  have hna : hdArm u3 u2 = true := (hdArm_eq (by omega) hu4 hu5).trans (by simp [of_decide_eq_false hc3, hg4'])
                  have hdr : (t.arms.drop 1)[k]? = some u2 := by rw [List.getElem?_drop, Nat.add_comm]; exact hu2
                  exact fun a ha => ⟨(k + 1), ha.sub (Sub.cons rfl (Sub.cons rfl (Sub.cons rfl Sub.nil))), ⟨hB, hb2, hb3, (by omega), (by rw [← hn, eq2_step hu3 hdr, hna]; rfl)⟩, by first | omega | (dsimp only; omega)⟩
          · skip
            have hc2' := of_decide_eq_false hc2
            refine At.exit ?_
            refine At.thenE ?_
            refine At.thenE ?_
            refine At.inE ?_
            refine At.thenN ?_
            refine At.seq ?_
            refine At.region ?_
            refine At.assign rfl rfl ?_
            refine At.ops0 ?_
            refine At.thenN ?_
            refine At.retc ?_
            refine At.doneR (ResV.tmp rfl ResV.nil) ?_
            have hgo := handlerOk_go (effs := p.effs) (t := t) hu1 (by simpa using hg1) (by simpa [ret_] using hg3') (by omega)
            exact ⟨congrArg Ending.returned (congrArg Value.bool (Eq.symm (by rw [hgo, ← hn, List.drop_eq_nil_of_le (by omega), List.drop_eq_nil_of_le (by simp only [List.length_drop]; omega)]; rfl))), hB⟩
theorem matches_any (p : Pr) (t : Tm) (w : World) (hp : PrOk w p) (hz : PrSz p) (ht : TmOk w t) (hvl : ∀ a ∈ t.arms, a.vars.length ≤ 4398046511104) :
    Calls Try.prog 58 ([.agg p.cs, .agg t.cs] : List Value).toArray w fun e w' => e = .returned (.bool (matchOk p.dats t)) ∧ Below w.heap.size w w' := by
  have hB := Below.refl w.heap.size w
  refine At.enter (N := 81) Try.func58 rfl rfl (by simp) [(0, .agg p.cs), (1, .agg t.cs)] (by simp) ?_
  refine At.seq ?_
  refine At.region ?_
  refine At.box rfl rfl (fun b1 w1 F1 => ?_)
  have gb1 := F1.ge hB
  have hb1 : w1.heap[b1]? = some (.cells p.cs 35) := F1.new
  replace hB := F1.below' hB
  refine At.box rfl rfl (fun b2 w2 F2 => ?_)
  have n_b1_b2 : b1 ≠ b2 := Nat.ne_of_lt (F2.lt hb1)
  have gb2 := F2.ge hB
  replace hb1 := F2.old hb1
  have hb2 : w2.heap[b2]? = some (.cells t.cs 33) := F2.new
  replace hB := F2.below' hB
  refine At.assign rfl rfl ?_
  refine At.ops0 ?_
  refine At.thenN ?_
  refine At.seq ?_
  refine At.seq ?_
  refine At.region ?_
  refine At.fieldAddr rfl fo33_6 rfl ?_
  refine At.load rfl (Ld.ownCell ag25 hb2 (ht).c6) rfl ?_
  refine At.lenSl rfl ((ht).armsAt).okL el25 rfl ?_
  refine At.eqI rfl rfl rfl ?_
  refine At.ops0 ?_
  refine At.thenN ?_
  refine At.cond (b := decide ((t.arms.length : Int) = 0)) rfl (fun hc1 => ?_) (fun hc1 => ?_)
  · skip
    have hc1' := of_decide_eq_true hc1
    refine At.seq ?_
    refine At.region ?_
    refine At.assign rfl rfl ?_
    refine At.ops0 ?_
    refine At.thenN ?_
    refine At.retc ?_
    refine At.thenR ?_
    refine At.doneR (ResV.tmp rfl ResV.nil) ?_
    exact ⟨congrArg Ending.returned (congrArg Value.bool (Eq.symm (matchOk_nil (by omega)))), hB⟩
  · skip
    have hc1' := of_decide_eq_false hc1
    refine At.skip ?_
    refine At.thenN ?_
    refine At.seq ?_
    obtain ⟨u1, hu1⟩ := some_of_lt (l := t.arms) (i := 0) (by omega)
    refine At.joinG (ι := Nat) (fun b3 => [(3, .pointer (some ⟨b2, 0, none⟩)), (5, .pointer (some ⟨b3, 0, none⟩)), (7, .bool ((findCon p.dats u1.nm).isSome))]) (fun b3 w8 => (Below w.heap.size w w8) ∧ (w8.heap[b2]? = some (.cells t.cs 33)) ∧ (w8.heap[b3]? = some (.cells (datE (findCon p.dats u1.nm)).cs 52)) ∧ (w.heap.size ≤ b3) ∧ (b2 ≠ b3)) ?_ (fun b3 w8 hS => ?_)
    · skip
      refine At.drawG (n := 16) mixed (by kernel_rfl) rfl (PanicOk.norm (PanicOk.then PanicOk.body)) ?_
      have hB := Below.drewB hB
      have hb1 : _ := (show w2.drew.heap[b1]? = _ from hb1)
      have hb2 : _ := (show w2.drew.heap[b2]? = _ from hb2)
      refine At.wpcS (i := 0) (d := 14) (.agg p.cs) (by kernel_rfl) rfl rfl rfl (fun Lx => ?_) ?_
      · skip
        refine At.load rfl (Ld.own ag35 (sz35.trans (congrArg some (hp).size.symm)) hb1) rfl ?_
        refine At.ops0 ?_
        exact fun a ha => ⟨ha, rfl⟩
      refine At.wpcS (i := 1) (d := 15) (.pointer (some ⟨b2, 0 + 6, none⟩)) (by kernel_rfl) rfl rfl rfl (fun Lx => ?_) ?_
      · skip
        refine At.fieldAddr rfl fo33_6 rfl ?_
        refine At.ops0 ?_
        exact fun a ha => ⟨ha, rfl⟩
      refine At.wpcS (i := 2) (d := 16) (t.av) (by kernel_rfl) rfl rfl rfl (fun Lx => ?_) ?_
      · skip
        refine At.load rfl (Ld.ownCell ag25 hb2 (ht).c6) rfl ?_
        refine At.ops0 ?_
        exact fun a ha => ⟨ha, rfl⟩
      refine At.wpcS (i := 3) (d := 17) (.pointer (some ⟨vBlock t.av, vOff t.av + 0 * 23, none⟩)) (by kernel_rfl) rfl rfl rfl (fun Lx => ?_) ?_
      · skip
        refine At.indexAddr (i := 0) rfl rfl ((ht).armsAt).okL (lt_of_some hu1) el25 sz71 rfl ?_
        refine At.ops0 ?_
        exact fun a ha => ⟨ha, rfl⟩
      refine At.wpcS (i := 4) (d := 18) (.pointer (some ⟨vBlock t.av, vOff t.av + 0 * 23 + 0, none⟩)) (by kernel_rfl) rfl rfl rfl (fun Lx => ?_) ?_
      · skip
        refine At.fieldAddr rfl fo71_0 rfl ?_
        refine At.ops0 ?_
        exact fun a ha => ⟨ha, rfl⟩
      refine At.wpcS (i := 5) (d := 19) (.string u1.nm) (by kernel_rfl) rfl rfl rfl (fun Lx => ?_) ?_
      · skip
        refine At.load rfl (Ld.cell ag9 (cell_keep ((((ht).armsAt).row hu1).get (((ht).arm hu1)).c0) hB)) rfl ?_
        refine At.ops0 ?_
        exact fun a ha => ⟨ha, rfl⟩
      refine At.wpcE [6, 11, 12] (by kernel_rfl) (by kernel_rfl) (.cons [] rfl (by kernel_rfl) ?_ (.cons [0, 1, 2, 3, 4, 5] rfl (by kernel_rfl) ?_ (.cons [0, 1, 2, 3, 4, 5] rfl (by kernel_rfl) ?_ .nil)))
      · skip
        refine At.call en19 rfl rfl (refCon_any p u1.nm _ ((hp).keep hB) (hp).hl (hp).ho (hp).hc) (fun e w9 hR => ?_)
        obtain ⟨rfl, hbl2⟩ := hR
        refine ⟨_, rfl, ?_⟩
        replace hb1 := Below.old hbl2 hb1
        replace hb2 := Below.old hbl2 hb2
        replace hB := Below.andThen hB hbl2
        refine At.ops0 ?_
        refine At.wpcN .nil ?_
        refine At.wpcS (i := 7) (d := 13) (.tuple #[.agg (datE (findCon p.dats u1.nm)).cs, .agg (cnE (findCon p.dats u1.nm)).cs, .bool ((findCon p.dats u1.nm).isSome)]) (by kernel_rfl) rfl rfl rfl (fun Lx => ?_) ?_
        · skip
          refine At.move rfl rfl ?_
          refine At.ops0 ?_
          exact fun a ha => ⟨ha, rfl⟩
        refine At.wpcS (i := 8) (d := 21) (.agg (datE (findCon p.dats u1.nm)).cs) (by kernel_rfl) rfl rfl rfl (fun Lx => ?_) ?_
        · skip
          refine At.extract rfl rfl rfl ?_
          refine At.ops0 ?_
          exact fun a ha => ⟨ha, rfl⟩
        refine At.wpcS (i := 9) (d := 22) (.agg (cnE (findCon p.dats u1.nm)).cs) (by kernel_rfl) rfl rfl rfl (fun Lx => ?_) ?_
        · skip
          refine At.extract rfl rfl rfl ?_
          refine At.ops0 ?_
          exact fun a ha => ⟨ha, rfl⟩
        refine At.wpcS (i := 10) (d := 23) (.bool ((findCon p.dats u1.nm).isSome)) (by kernel_rfl) rfl rfl rfl (fun Lx => ?_) ?_
        · skip
          refine At.extract rfl rfl rfl ?_
          refine At.ops0 ?_
          exact fun a ha => ⟨ha, rfl⟩
        refine At.wpcE [11, 12] (by kernel_rfl) (by kernel_rfl) (.cons [7, 8, 9, 10] rfl (by kernel_rfl) ?_ (.cons [7, 8, 9, 10] rfl (by kernel_rfl) ?_ .nil))
        · skip
          refine At.alloc ze52 rfl (fun b5 w10 F5 => ?_)
          have n_b1_b5 : b1 ≠ b5 := Nat.ne_of_lt (F5.lt hb1)
          have n_b2_b5 : b2 ≠ b5 := Nat.ne_of_lt (F5.lt hb2)
          have gb5 := F5.ge hB
          replace hb1 := F5.old hb1
          replace hb2 := F5.old hb2
          have hb5 : w10.heap[b5]? = some (.cells #[.string (⟨#[]⟩ : ByteArray), (.slice none 0 0)] 52) := F5.new
          replace hB := F5.below' hB
          refine At.ops0 ?_
          refine At.wpcN (.cons rfl rfl rfl rfl (fun Lx => ?_) (.cons rfl rfl rfl rfl (fun Lx => ?_) (.cons rfl rfl rfl rfl (fun Lx => ?_) (.cons rfl rfl rfl rfl (fun Lx => ?_) .nil)))) ?_
          · skip
            refine At.move rfl rfl ?_
            refine At.ops0 ?_
            exact fun a ha => ⟨ha, rfl⟩
          · skip
            refine At.extract rfl rfl rfl ?_
            refine At.ops0 ?_
            exact fun a ha => ⟨ha, rfl⟩
          · skip
            refine At.extract rfl rfl rfl ?_
            refine At.ops0 ?_
            exact fun a ha => ⟨ha, rfl⟩
          · skip
            refine At.extract rfl rfl rfl ?_
            refine At.ops0 ?_
            exact fun a ha => ⟨ha, rfl⟩
          refine At.wpcE [12] (by kernel_rfl) (by kernel_rfl) (.cons [7, 8, 9, 10] rfl (by kernel_rfl) ?_ .nil)
          refine At.alloc ze54 rfl (fun b6 w11 F6 => ?_)
          have n_b1_b6 : b1 ≠ b6 := Nat.ne_of_lt (F6.lt hb1)
          have n_b2_b6 : b2 ≠ b6 := Nat.ne_of_lt (F6.lt hb2)
          have n_b5_b6 : b5 ≠ b6 := Nat.ne_of_lt (F6.lt hb5)
          have gb6 := F6.ge hB
          replace hb1 := F6.old hb1
          replace hb2 := F6.old hb2
          replace hb5 := F6.old hb5
          have hb6 : w11.heap[b6]? = some (.cells #[.string (⟨#[]⟩ : ByteArray), (.slice none 0 0)] 54) := F6.new
          replace hB := F6.below' hB
          refine At.ops0 ?_
          refine At.wpcN (.cons rfl rfl rfl rfl (fun Lx => ?_) (.cons rfl rfl rfl rfl (fun Lx => ?_) (.cons rfl rfl rfl rfl (fun Lx => ?_) (.cons rfl rfl rfl rfl (fun Lx => ?_) .nil)))) ?_
          · skip
            refine At.move rfl rfl ?_
            refine At.ops0 ?_
            exact fun a ha => ⟨ha, rfl⟩
          · skip
            refine At.extract rfl rfl rfl ?_
            refine At.ops0 ?_
            exact fun a ha => ⟨ha, rfl⟩
          · skip
            refine At.extract rfl rfl rfl ?_
            refine At.ops0 ?_
            exact fun a ha => ⟨ha, rfl⟩
          · skip
            refine At.extract rfl rfl rfl ?_
            refine At.ops0 ?_
            exact fun a ha => ⟨ha, rfl⟩
          refine At.wpcE [13] (by kernel_rfl) (by kernel_rfl) (.cons [9, 10] rfl (by kernel_rfl) ?_ .nil)
          refine At.storeAll rfl rfl hb5 (sz52.trans (congrArg some ((datE_ok hp u1.nm)).size.symm)) ((datE_ok hp u1.nm)).size.symm ((datE_ok hp u1.nm)).one (fun w12 S3 => ?_)
          replace hb1 := S3.other hb1 n_b1_b5
          replace hb2 := S3.other hb2 n_b2_b5
          replace hb6 := S3.other hb6 n_b5_b6.symm
          replace hb5 : w12.heap[b5]? = some (.cells (datE (findCon p.dats u1.nm)).cs 52) := S3.new
          replace hB := S3.below' hB gb5
          refine At.ops0 ?_
          refine At.wpcN (.cons rfl rfl rfl rfl (fun Lx => ?_) (.cons rfl rfl rfl rfl (fun Lx => ?_) .nil)) ?_
          · skip
            refine At.extract rfl rfl rfl ?_
            refine At.ops0 ?_
            exact fun a ha => ⟨ha, rfl⟩
          · skip
            refine At.extract rfl rfl rfl ?_
            refine At.ops0 ?_
            exact fun a ha => ⟨ha, rfl⟩
          refine At.wpcE [14] (by kernel_rfl) (by kernel_rfl) (.cons [10] rfl (by kernel_rfl) ?_ .nil)
          refine At.storeAll rfl rfl hb6 (sz54.trans (congrArg some ((cnE_ok hp u1.nm)).size.symm)) ((cnE_ok hp u1.nm)).size.symm ((cnE_ok hp u1.nm)).one (fun w13 S4 => ?_)
          replace hb1 := S4.other hb1 n_b1_b6
          replace hb2 := S4.other hb2 n_b2_b6
          replace hb5 := S4.other hb5 n_b5_b6
          replace hb6 : w13.heap[b6]? = some (.cells (cnE (findCon p.dats u1.nm)).cs 54) := S4.new
          replace hB := S4.below' hB gb6
          refine At.ops0 ?_
          refine At.wpcN (.cons rfl rfl rfl rfl (fun Lx => ?_) .nil) ?_
          · skip
            refine At.extract rfl rfl rfl ?_
            refine At.ops0 ?_
            exact fun a ha => ⟨ha, rfl⟩
          refine At.wpcE [15] (by kernel_rfl) (by kernel_rfl) (.cons [] rfl (by kernel_rfl) ?_ .nil)
          refine At.assign rfl rfl ?_
          refine At.ops0 ?_
          refine At.wpcN .nil ?_
          refine At.wpcZ ?_
          exact At.joinedG b5 (Sub.cons rfl (Sub.cons rfl (Sub.cons rfl Sub.nil))) ⟨hB, hb2, hb5, gb5, n_b2_b5⟩
        · skip
          refine At.alloc ze54 rfl (fun b7 w14 F7 => ?_)
          have n_b1_b7 : b1 ≠ b7 := Nat.ne_of_lt (F7.lt hb1)
          have n_b2_b7 : b2 ≠ b7 := Nat.ne_of_lt (F7.lt hb2)
          have gb7 := F7.ge hB
          replace hb1 := F7.old hb1
          replace hb2 := F7.old hb2
          have hb7 : w14.heap[b7]? = some (.cells #[.string (⟨#[]⟩ : ByteArray), (.slice none 0 0)] 54) := F7.new
          replace hB := F7.below' hB
          refine At.ops0 ?_
          refine At.wpcN (.cons rfl rfl rfl rfl (fun Lx => ?_) (.cons rfl rfl rfl rfl (fun Lx => ?_) (.cons rfl rfl rfl rfl (fun Lx => ?_) (.cons rfl rfl rfl rfl (fun Lx => ?_) .nil)))) ?_
          · skip
            refine At.move rfl rfl ?_
            refine At.ops0 ?_
            exact fun a ha => ⟨ha, rfl⟩
          · skip
            refine At.extract rfl rfl rfl ?_
            refine At.ops0 ?_
            exact fun a ha => ⟨ha, rfl⟩
          · skip
            refine At.extract rfl rfl rfl ?_
            refine At.ops0 ?_
            exact fun a ha => ⟨ha, rfl⟩
          · skip
            refine At.extract rfl rfl rfl ?_
            refine At.ops0 ?_
            exact fun a ha => ⟨ha, rfl⟩
          refine At.wpcE [11] (by kernel_rfl) (by kernel_rfl) (.cons [7, 8, 9, 10] rfl (by kernel_rfl) ?_ .nil)
          refine At.alloc ze52 rfl (fun b8 w15 F8 => ?_)
          have n_b1_b8 : b1 ≠ b8 := Nat.ne_of_lt (F8.lt hb1)
          have n_b2_b8 : b2 ≠ b8 := Nat.ne_of_lt (F8.lt hb2)
          have n_b7_b8 : b7 ≠ b8 := Nat.ne_of_lt (F8.lt hb7)
          have gb8 := F8.ge hB
          replace hb1 := F8.old hb1
          replace hb2 := F8.old hb2
          replace hb7 := F8.old hb7
          have hb8 : w15.heap[b8]? = some (.cells #[.string (⟨#[]⟩ : ByteArray), (.slice none 0 0)] 52) := F8.new
          replace hB := F8.below' hB
          refine At.ops0 ?_
          refine At.wpcN (.cons rfl rfl rfl rfl (fun Lx => ?_) (.cons rfl rfl rfl rfl (fun Lx => ?_) (.cons rfl rfl rfl rfl (fun Lx => ?_) (.cons rfl rfl rfl rfl (fun Lx => ?_) .nil)))) ?_
          · skip
            refine At.move rfl rfl ?_
            refine At.ops0 ?_
            exact fun a ha => ⟨ha, rfl⟩
          · skip
            refine At.extract rfl rfl rfl ?_
            refine At.ops0 ?_
            exact fun a ha => ⟨ha, rfl⟩
          · skip
            refine At.extract rfl rfl rfl ?_
            refine At.ops0 ?_
            exact fun a ha => ⟨ha, rfl⟩
          · skip
            refine At.extract rfl rfl rfl ?_
            refine At.ops0 ?_
            exact fun a ha => ⟨ha, rfl⟩
          refine At.wpcE [13] (by kernel_rfl) (by kernel_rfl) (.cons [9, 10] rfl (by kernel_rfl) ?_ .nil)
          refine At.storeAll rfl rfl hb8 (sz52.trans (congrArg some ((datE_ok hp u1.nm)).size.symm)) ((datE_ok hp u1.nm)).size.symm ((datE_ok hp u1.nm)).one (fun w16 S5 => ?_)
          replace hb1 := S5.other hb1 n_b1_b8
          replace hb2 := S5.other hb2 n_b2_b8
          replace hb7 := S5.other hb7 n_b7_b8
          replace hb8 : w16.heap[b8]? = some (.cells (datE (findCon p.dats u1.nm)).cs 52) := S5.new
          replace hB := S5.below' hB gb8
          refine At.ops0 ?_
          refine At.wpcN (.cons rfl rfl rfl rfl (fun Lx => ?_) (.cons rfl rfl rfl rfl (fun Lx => ?_) .nil)) ?_
          · skip
            refine At.extract rfl rfl rfl ?_
            refine At.ops0 ?_
            exact fun a ha => ⟨ha, rfl⟩
          · skip
            refine At.extract rfl rfl rfl ?_
            refine At.ops0 ?_
            exact fun a ha => ⟨ha, rfl⟩
          refine At.wpcE [14] (by kernel_rfl) (by kernel_rfl) (.cons [10] rfl (by kernel_rfl) ?_ .nil)
          refine At.storeAll rfl rfl hb7 (sz54.trans (congrArg some ((cnE_ok hp u1.nm)).size.symm)) ((cnE_ok hp u1.nm)).size.symm ((cnE_ok hp u1.nm)).one (fun w17 S6 => ?_)
          replace hb1 := S6.other hb1 n_b1_b7
          replace hb2 := S6.other hb2 n_b2_b7
          replace hb8 := S6.other hb8 n_b7_b8.symm
          replace hb7 : w17.heap[b7]? = some (.cells (cnE (findCon p.dats u1.nm)).cs 54) := S6.new
          replace hB := S6.below' hB gb7
          refine At.ops0 ?_
          refine At.wpcN (.cons rfl rfl rfl rfl (fun Lx => ?_) .nil) ?_
          · skip
            refine At.extract rfl rfl rfl ?_
            refine At.ops0 ?_
            exact fun a ha => ⟨ha, rfl⟩
          refine At.wpcE [15] (by kernel_rfl) (by kernel_rfl) (.cons [] rfl (by kernel_rfl) ?_ .nil)
          refine At.assign rfl rfl ?_
          refine At.ops0 ?_
          refine At.wpcN .nil ?_
          refine At.wpcZ ?_
          exact At.joinedG b8 (Sub.cons rfl (Sub.cons rfl (Sub.cons rfl Sub.nil))) ⟨hB, hb2, hb8, gb8, n_b2_b8⟩
      · skip
        refine At.alloc ze52 rfl (fun b9 w18 F9 => ?_)
        have n_b1_b9 : b1 ≠ b9 := Nat.ne_of_lt (F9.lt hb1)
        have n_b2_b9 : b2 ≠ b9 := Nat.ne_of_lt (F9.lt hb2)
        have gb9 := F9.ge hB
        replace hb1 := F9.old hb1
        replace hb2 := F9.old hb2
        have hb9 : w18.heap[b9]? = some (.cells #[.string (⟨#[]⟩ : ByteArray), (.slice none 0 0)] 52) := F9.new
        replace hB := F9.below' hB
        refine At.ops0 ?_
        refine At.wpcN (.cons rfl rfl rfl rfl (fun Lx => ?_) (.cons rfl rfl rfl rfl (fun Lx => ?_) (.cons rfl rfl rfl rfl (fun Lx => ?_) (.cons rfl rfl rfl rfl (fun Lx => ?_) (.cons rfl rfl rfl rfl (fun Lx => ?_) (.cons rfl rfl rfl rfl (fun Lx => ?_) .nil)))))) ?_
        · skip
          refine At.load rfl (Ld.own ag35 (sz35.trans (congrArg some (hp).size.symm)) hb1) rfl ?_
          refine At.ops0 ?_
          exact fun a ha => ⟨ha, rfl⟩
        · skip
          refine At.fieldAddr rfl fo33_6 rfl ?_
          refine At.ops0 ?_
          exact fun a ha => ⟨ha, rfl⟩
        · skip
          refine At.load rfl (Ld.ownCell ag25 hb2 (ht).c6) rfl ?_
          refine At.ops0 ?_
          exact fun a ha => ⟨ha, rfl⟩
        · skip
          refine At.indexAddr (i := 0) rfl rfl ((ht).armsAt).okL (lt_of_some hu1) el25 sz71 rfl ?_
          refine At.ops0 ?_
          exact fun a ha => ⟨ha, rfl⟩
        · skip
          refine At.fieldAddr rfl fo71_0 rfl ?_
          refine At.ops0 ?_
          exact fun a ha => ⟨ha, rfl⟩
        · skip
          refine At.load rfl (Ld.cell ag9 (cell_keep ((((ht).armsAt).row hu1).get (((ht).arm hu1)).c0) hB)) rfl ?_
          refine At.ops0 ?_
          exact fun a ha => ⟨ha, rfl⟩
        refine At.wpcE [6, 12] (by kernel_rfl) (by kernel_rfl) (.cons [] rfl (by kernel_rfl) ?_ (.cons [0, 1, 2, 3, 4, 5] rfl (by kernel_rfl) ?_ .nil))
        · skip
          refine At.call en19 rfl rfl (refCon_any p u1.nm _ ((hp).keep hB) (hp).hl (hp).ho (hp).hc) (fun e w19 hR => ?_)
          obtain ⟨rfl, hbl3⟩ := hR
          refine ⟨_, rfl, ?_⟩
          replace hb1 := Below.old hbl3 hb1
          replace hb2 := Below.old hbl3 hb2
          replace hb9 := Below.old hbl3 hb9
          replace hB := Below.andThen hB hbl3
          refine At.ops0 ?_
          refine At.wpcN .nil ?_
          refine At.wpcS (i := 7) (d := 13) (.tuple #[.agg (datE (findCon p.dats u1.nm)).cs, .agg (cnE (findCon p.dats u1.nm)).cs, .bool ((findCon p.dats u1.nm).isSome)]) (by kernel_rfl) rfl rfl rfl (fun Lx => ?_) ?_
          · skip
            refine At.move rfl rfl ?_
            refine At.ops0 ?_
            exact fun a ha => ⟨ha, rfl⟩
          refine At.wpcS (i := 8) (d := 21) (.agg (datE (findCon p.dats u1.nm)).cs) (by kernel_rfl) rfl rfl rfl (fun Lx => ?_) ?_
          · skip
            refine At.extract rfl rfl rfl ?_
            refine At.ops0 ?_
            exact fun a ha => ⟨ha, rfl⟩
          refine At.wpcS (i := 9) (d := 22) (.agg (cnE (findCon p.dats u1.nm)).cs) (by kernel_rfl) rfl rfl rfl (fun Lx => ?_) ?_
          · skip
            refine At.extract rfl rfl rfl ?_
            refine At.ops0 ?_
            exact fun a ha => ⟨ha, rfl⟩
          refine At.wpcS (i := 10) (d := 23) (.bool ((findCon p.dats u1.nm).isSome)) (by kernel_rfl) rfl rfl rfl (fun Lx => ?_) ?_
          · skip
            refine At.extract rfl rfl rfl ?_
            refine At.ops0 ?_
            exact fun a ha => ⟨ha, rfl⟩
          refine At.wpcE [12] (by kernel_rfl) (by kernel_rfl) (.cons [7, 8, 9, 10] rfl (by kernel_rfl) ?_ .nil)
          refine At.alloc ze54 rfl (fun b10 w20 F10 => ?_)
          have n_b1_b10 : b1 ≠ b10 := Nat.ne_of_lt (F10.lt hb1)
          have n_b2_b10 : b2 ≠ b10 := Nat.ne_of_lt (F10.lt hb2)
          have n_b9_b10 : b9 ≠ b10 := Nat.ne_of_lt (F10.lt hb9)
          have gb10 := F10.ge hB
          replace hb1 := F10.old hb1
          replace hb2 := F10.old hb2
          replace hb9 := F10.old hb9
          have hb10 : w20.heap[b10]? = some (.cells #[.string (⟨#[]⟩ : ByteArray), (.slice none 0 0)] 54) := F10.new
          replace hB := F10.below' hB
          refine At.ops0 ?_
          refine At.wpcN (.cons rfl rfl rfl rfl (fun Lx => ?_) (.cons rfl rfl rfl rfl (fun Lx => ?_) (.cons rfl rfl rfl rfl (fun Lx => ?_) (.cons rfl rfl rfl rfl (fun Lx => ?_) .nil)))) ?_
          · skip
            refine At.move rfl rfl ?_
            refine At.ops0 ?_
            exact fun a ha => ⟨ha, rfl⟩
          · skip
            refine At.extract rfl rfl rfl ?_
            refine At.ops0 ?_
            exact fun a ha => ⟨ha, rfl⟩
          · skip
            refine At.extract rfl rfl rfl ?_
            refine At.ops0 ?_
            exact fun a ha => ⟨ha, rfl⟩
          · skip
            refine At.extract rfl rfl rfl ?_
            refine At.ops0 ?_
            exact fun a ha => ⟨ha, rfl⟩
          refine At.wpcE [13] (by kernel_rfl) (by kernel_rfl) (.cons [9, 10] rfl (by kernel_rfl) ?_ .nil)
          refine At.storeAll rfl rfl hb9 (sz52.trans (congrArg some ((datE_ok hp u1.nm)).size.symm)) ((datE_ok hp u1.nm)).size.symm ((datE_ok hp u1.nm)).one (fun w21 S7 => ?_)
          replace hb1 := S7.other hb1 n_b1_b9
          replace hb2 := S7.other hb2 n_b2_b9
          replace hb10 := S7.other hb10 n_b9_b10.symm
          replace hb9 : w21.heap[b9]? = some (.cells (datE (findCon p.dats u1.nm)).cs 52) := S7.new
          replace hB := S7.below' hB gb9
          refine At.ops0 ?_
          refine At.wpcN (.cons rfl rfl rfl rfl (fun Lx => ?_) (.cons rfl rfl rfl rfl (fun Lx => ?_) .nil)) ?_
          · skip
            refine At.extract rfl rfl rfl ?_
            refine At.ops0 ?_
            exact fun a ha => ⟨ha, rfl⟩
          · skip
            refine At.extract rfl rfl rfl ?_
            refine At.ops0 ?_
            exact fun a ha => ⟨ha, rfl⟩
          refine At.wpcE [14] (by kernel_rfl) (by kernel_rfl) (.cons [10] rfl (by kernel_rfl) ?_ .nil)
          refine At.storeAll rfl rfl hb10 (sz54.trans (congrArg some ((cnE_ok hp u1.nm)).size.symm)) ((cnE_ok hp u1.nm)).size.symm ((cnE_ok hp u1.nm)).one (fun w22 S8 => ?_)
          replace hb1 := S8.other hb1 n_b1_b10
          replace hb2 := S8.other hb2 n_b2_b10
          replace hb9 := S8.other hb9 n_b9_b10
          replace hb10 : w22.heap[b10]? = some (.cells (cnE (findCon p.dats u1.nm)).cs 54) := S8.new
          replace hB := S8.below' hB gb10
          refine At.ops0 ?_
          refine At.wpcN (.cons rfl rfl rfl rfl (fun Lx => ?_) .nil) ?_
          · skip
            refine At.extract rfl rfl rfl ?_
            refine At.ops0 ?_
            exact fun a ha => ⟨ha, rfl⟩
          refine At.wpcE [15] (by kernel_rfl) (by kernel_rfl) (.cons [] rfl (by kernel_rfl) ?_ .nil)
          refine At.assign rfl rfl ?_
          refine At.ops0 ?_
          refine At.wpcN .nil ?_
          refine At.wpcZ ?_
          exact At.joinedG b9 (Sub.cons rfl (Sub.cons rfl (Sub.cons rfl Sub.nil))) ⟨hB, hb2, hb9, gb9, n_b2_b9⟩
        · skip
          refine At.alloc ze54 rfl (fun b11 w23 F11 => ?_)
          have n_b1_b11 : b1 ≠ b11 := Nat.ne_of_lt (F11.lt hb1)
          have n_b2_b11 : b2 ≠ b11 := Nat.ne_of_lt (F11.lt hb2)
          have n_b9_b11 : b9 ≠ b11 := Nat.ne_of_lt (F11.lt hb9)
          have gb11 := F11.ge hB
          replace hb1 := F11.old hb1
          replace hb2 := F11.old hb2
          replace hb9 := F11.old hb9
          have hb11 : w23.heap[b11]? = some (.cells #[.string (⟨#[]⟩ : ByteArray), (.slice none 0 0)] 54) := F11.new
          replace hB := F11.below' hB
          refine At.ops0 ?_
          refine At.wpcN (.cons rfl rfl rfl rfl (fun Lx => ?_) (.cons rfl rfl rfl rfl (fun Lx => ?_) (.cons rfl rfl rfl rfl (fun Lx => ?_) (.cons rfl rfl rfl rfl (fun Lx => ?_) (.cons rfl rfl rfl rfl (fun Lx => ?_) (.cons rfl rfl rfl rfl (fun Lx => ?_) .nil)))))) ?_
          · skip
            refine At.load rfl (Ld.own ag35 (sz35.trans (congrArg some (hp).size.symm)) hb1) rfl ?_
            refine At.ops0 ?_
            exact fun a ha => ⟨ha, rfl⟩
          · skip
            refine At.fieldAddr rfl fo33_6 rfl ?_
            refine At.ops0 ?_
            exact fun a ha => ⟨ha, rfl⟩
          · skip
            refine At.load rfl (Ld.ownCell ag25 hb2 (ht).c6) rfl ?_
            refine At.ops0 ?_
            exact fun a ha => ⟨ha, rfl⟩
          · skip
            refine At.indexAddr (i := 0) rfl rfl ((ht).armsAt).okL (lt_of_some hu1) el25 sz71 rfl ?_
            refine At.ops0 ?_
            exact fun a ha => ⟨ha, rfl⟩
          · skip
            refine At.fieldAddr rfl fo71_0 rfl ?_
            refine At.ops0 ?_
            exact fun a ha => ⟨ha, rfl⟩
          · skip
            refine At.load rfl (Ld.cell ag9 (cell_keep ((((ht).armsAt).row hu1).get (((ht).arm hu1)).c0) hB)) rfl ?_
            refine At.ops0 ?_
            exact fun a ha => ⟨ha, rfl⟩
          refine At.wpcE [6] (by kernel_rfl) (by kernel_rfl) (.cons [] rfl (by kernel_rfl) ?_ .nil)
          refine At.call en19 rfl rfl (refCon_any p u1.nm _ ((hp).keep hB) (hp).hl (hp).ho (hp).hc) (fun e w24 hR => ?_)
          obtain ⟨rfl, hbl4⟩ := hR
          refine ⟨_, rfl, ?_⟩
          replace hb1 := Below.old hbl4 hb1
          replace hb2 := Below.old hbl4 hb2
          replace hb9 := Below.old hbl4 hb9
          replace hb11 := Below.old hbl4 hb11
          replace hB := Below.andThen hB hbl4
          refine At.ops0 ?_
          refine At.wpcN .nil ?_
          refine At.wpcS (i := 7) (d := 13) (.tuple #[.agg (datE (findCon p.dats u1.nm)).cs, .agg (cnE (findCon p.dats u1.nm)).cs, .bool ((findCon p.dats u1.nm).isSome)]) (by kernel_rfl) rfl rfl rfl (fun Lx => ?_) ?_
          · skip
            refine At.move rfl rfl ?_
            refine At.ops0 ?_
            exact fun a ha => ⟨ha, rfl⟩
          refine At.wpcS (i := 8) (d := 21) (.agg (datE (findCon p.dats u1.nm)).cs) (by kernel_rfl) rfl rfl rfl (fun Lx => ?_) ?_
          · skip
            refine At.extract rfl rfl rfl ?_
            refine At.ops0 ?_
            exact fun a ha => ⟨ha, rfl⟩
          refine At.wpcS (i := 9) (d := 22) (.agg (cnE (findCon p.dats u1.nm)).cs) (by kernel_rfl) rfl rfl rfl (fun Lx => ?_) ?_
          · skip
            refine At.extract rfl rfl rfl ?_
            refine At.ops0 ?_
            exact fun a ha => ⟨ha, rfl⟩
          refine At.wpcS (i := 10) (d := 23) (.bool ((findCon p.dats u1.nm).isSome)) (by kernel_rfl) rfl rfl rfl (fun Lx => ?_) ?_
          · skip
            refine At.extract rfl rfl rfl ?_
            refine At.ops0 ?_
            exact fun a ha => ⟨ha, rfl⟩
          refine At.wpcE [13] (by kernel_rfl) (by kernel_rfl) (.cons [9, 10] rfl (by kernel_rfl) ?_ .nil)
          refine At.storeAll rfl rfl hb9 (sz52.trans (congrArg some ((datE_ok hp u1.nm)).size.symm)) ((datE_ok hp u1.nm)).size.symm ((datE_ok hp u1.nm)).one (fun w25 S9 => ?_)
          replace hb1 := S9.other hb1 n_b1_b9
          replace hb2 := S9.other hb2 n_b2_b9
          replace hb11 := S9.other hb11 n_b9_b11.symm
          replace hb9 : w25.heap[b9]? = some (.cells (datE (findCon p.dats u1.nm)).cs 52) := S9.new
          replace hB := S9.below' hB gb9
          refine At.ops0 ?_
          refine At.wpcN (.cons rfl rfl rfl rfl (fun Lx => ?_) (.cons rfl rfl rfl rfl (fun Lx => ?_) .nil)) ?_
          · skip
            refine At.extract rfl rfl rfl ?_
            refine At.ops0 ?_
            exact fun a ha => ⟨ha, rfl⟩
          · skip
            refine At.extract rfl rfl rfl ?_
            refine At.ops0 ?_
            exact fun a ha => ⟨ha, rfl⟩
          refine At.wpcE [14] (by kernel_rfl) (by kernel_rfl) (.cons [10] rfl (by kernel_rfl) ?_ .nil)
          refine At.storeAll rfl rfl hb11 (sz54.trans (congrArg some ((cnE_ok hp u1.nm)).size.symm)) ((cnE_ok hp u1.nm)).size.symm ((cnE_ok hp u1.nm)).one (fun w26 S10 => ?_)
          replace hb1 := S10.other hb1 n_b1_b11
          replace hb2 := S10.other hb2 n_b2_b11
          replace hb9 := S10.other hb9 n_b9_b11
          replace hb11 : w26.heap[b11]? = some (.cells (cnE (findCon p.dats u1.nm)).cs 54) := S10.new
          replace hB := S10.below' hB gb11
          refine At.ops0 ?_
          refine At.wpcN (.cons rfl rfl rfl rfl (fun Lx => ?_) .nil) ?_
          · skip
            refine At.extract rfl rfl rfl ?_
            refine At.ops0 ?_
            exact fun a ha => ⟨ha, rfl⟩
          refine At.wpcE [15] (by kernel_rfl) (by kernel_rfl) (.cons [] rfl (by kernel_rfl) ?_ .nil)
          refine At.assign rfl rfl ?_
          refine At.ops0 ?_
          refine At.wpcN .nil ?_
          refine At.wpcZ ?_
          exact At.joinedG b9 (Sub.cons rfl (Sub.cons rfl (Sub.cons rfl Sub.nil))) ⟨hB, hb2, hb9, gb9, n_b2_b9⟩
      · skip
        refine At.alloc ze54 rfl (fun b12 w27 F12 => ?_)
        have n_b1_b12 : b1 ≠ b12 := Nat.ne_of_lt (F12.lt hb1)
        have n_b2_b12 : b2 ≠ b12 := Nat.ne_of_lt (F12.lt hb2)
        have gb12 := F12.ge hB
        replace hb1 := F12.old hb1
        replace hb2 := F12.old hb2
        have hb12 : w27.heap[b12]? = some (.cells #[.string (⟨#[]⟩ : ByteArray), (.slice none 0 0)] 54) := F12.new
        replace hB := F12.below' hB
        refine At.ops0 ?_
        refine At.wpcN (.cons rfl rfl rfl rfl (fun Lx => ?_) (.cons rfl rfl rfl rfl (fun Lx => ?_) (.cons rfl rfl rfl rfl (fun Lx => ?_) (.cons rfl rfl rfl rfl (fun Lx => ?_) (.cons rfl rfl rfl rfl (fun Lx => ?_) (.cons rfl rfl rfl rfl (fun Lx => ?_) .nil)))))) ?_
        · skip
          refine At.load rfl (Ld.own ag35 (sz35.trans (congrArg some (hp).size.symm)) hb1) rfl ?_
          refine At.ops0 ?_
          exact fun a ha => ⟨ha, rfl⟩
        · skip
          refine At.fieldAddr rfl fo33_6 rfl ?_
          refine At.ops0 ?_
          exact fun a ha => ⟨ha, rfl⟩
        · skip
          refine At.load rfl (Ld.ownCell ag25 hb2 (ht).c6) rfl ?_
          refine At.ops0 ?_
          exact fun a ha => ⟨ha, rfl⟩
        · skip
          refine At.indexAddr (i := 0) rfl rfl ((ht).armsAt).okL (lt_of_some hu1) el25 sz71 rfl ?_
          refine At.ops0 ?_
          exact fun a ha => ⟨ha, rfl⟩
        · skip
          refine At.fieldAddr rfl fo71_0 rfl ?_
          refine At.ops0 ?_
          exact fun a ha => ⟨ha, rfl⟩
        · skip
          refine At.load rfl (Ld.cell ag9 (cell_keep ((((ht).armsAt).row hu1).get (((ht).arm hu1)).c0) hB)) rfl ?_
          refine At.ops0 ?_
          exact fun a ha => ⟨ha, rfl⟩
        refine At.wpcE [6, 11] (by kernel_rfl) (by kernel_rfl) (.cons [] rfl (by kernel_rfl) ?_ (.cons [0, 1, 2, 3, 4, 5] rfl (by kernel_rfl) ?_ .nil))
        · skip
          refine At.call en19 rfl rfl (refCon_any p u1.nm _ ((hp).keep hB) (hp).hl (hp).ho (hp).hc) (fun e w28 hR => ?_)
          obtain ⟨rfl, hbl5⟩ := hR
          refine ⟨_, rfl, ?_⟩
          replace hb1 := Below.old hbl5 hb1
          replace hb2 := Below.old hbl5 hb2
          replace hb12 := Below.old hbl5 hb12
          replace hB := Below.andThen hB hbl5
          refine At.ops0 ?_
          refine At.wpcN .nil ?_
          refine At.wpcS (i := 7) (d := 13) (.tuple #[.agg (datE (findCon p.dats u1.nm)).cs, .agg (cnE (findCon p.dats u1.nm)).cs, .bool ((findCon p.dats u1.nm).isSome)]) (by kernel_rfl) rfl rfl rfl (fun Lx => ?_) ?_
          · skip
            refine At.move rfl rfl ?_
            refine At.ops0 ?_
            exact fun a ha => ⟨ha, rfl⟩
          refine At.wpcS (i := 8) (d := 21) (.agg (datE (findCon p.dats u1.nm)).cs) (by kernel_rfl) rfl rfl rfl (fun Lx => ?_) ?_
          · skip
            refine At.extract rfl rfl rfl ?_
            refine At.ops0 ?_
            exact fun a ha => ⟨ha, rfl⟩
          refine At.wpcS (i := 9) (d := 22) (.agg (cnE (findCon p.dats u1.nm)).cs) (by kernel_rfl) rfl rfl rfl (fun Lx => ?_) ?_
          · skip
            refine At.extract rfl rfl rfl ?_
            refine At.ops0 ?_
            exact fun a ha => ⟨ha, rfl⟩
          refine At.wpcS (i := 10) (d := 23) (.bool ((findCon p.dats u1.nm).isSome)) (by kernel_rfl) rfl rfl rfl (fun Lx => ?_) ?_
          · skip
            refine At.extract rfl rfl rfl ?_
            refine At.ops0 ?_
            exact fun a ha => ⟨ha, rfl⟩
          refine At.wpcE [11] (by kernel_rfl) (by kernel_rfl) (.cons [7, 8, 9, 10] rfl (by kernel_rfl) ?_ .nil)
          refine At.alloc ze52 rfl (fun b13 w29 F13 => ?_)
          have n_b1_b13 : b1 ≠ b13 := Nat.ne_of_lt (F13.lt hb1)
          have n_b2_b13 : b2 ≠ b13 := Nat.ne_of_lt (F13.lt hb2)
          have n_b12_b13 : b12 ≠ b13 := Nat.ne_of_lt (F13.lt hb12)
          have gb13 := F13.ge hB
          replace hb1 := F13.old hb1
          replace hb2 := F13.old hb2
          replace hb12 := F13.old hb12
          have hb13 : w29.heap[b13]? = some (.cells #[.string (⟨#[]⟩ : ByteArray), (.slice none 0 0)] 52) := F13.new
          replace hB := F13.below' hB
          refine At.ops0 ?_
          refine At.wpcN (.cons rfl rfl rfl rfl (fun Lx => ?_) (.cons rfl rfl rfl rfl (fun Lx => ?_) (.cons rfl rfl rfl rfl (fun Lx => ?_) (.cons rfl rfl rfl rfl (fun Lx => ?_) .nil)))) ?_
          · skip
            refine At.move rfl rfl ?_
            refine At.ops0 ?_
            exact fun a ha => ⟨ha, rfl⟩
          · skip
            refine At.extract rfl rfl rfl ?_
            refine At.ops0 ?_
            exact fun a ha => ⟨ha, rfl⟩
          · skip
            refine At.extract rfl rfl rfl ?_
            refine At.ops0 ?_
            exact fun a ha => ⟨ha, rfl⟩
          · skip
            refine At.extract rfl rfl rfl ?_
            refine At.ops0 ?_
            exact fun a ha => ⟨ha, rfl⟩
          refine At.wpcE [13] (by kernel_rfl) (by kernel_rfl) (.cons [9, 10] rfl (by kernel_rfl) ?_ .nil)
          refine At.storeAll rfl rfl hb13 (sz52.trans (congrArg some ((datE_ok hp u1.nm)).size.symm)) ((datE_ok hp u1.nm)).size.symm ((datE_ok hp u1.nm)).one (fun w30 S11 => ?_)
          replace hb1 := S11.other hb1 n_b1_b13
          replace hb2 := S11.other hb2 n_b2_b13
          replace hb12 := S11.other hb12 n_b12_b13
          replace hb13 : w30.heap[b13]? = some (.cells (datE (findCon p.dats u1.nm)).cs 52) := S11.new
          replace hB := S11.below' hB gb13
          refine At.ops0 ?_
          refine At.wpcN (.cons rfl rfl rfl rfl (fun Lx => ?_) (.cons rfl rfl rfl rfl (fun Lx => ?_) .nil)) ?_
          · skip
            refine At.extract rfl rfl rfl ?_
            refine At.ops0 ?_
            exact fun a ha => ⟨ha, rfl⟩
          · skip
            refine At.extract rfl rfl rfl ?_
            refine At.ops0 ?_
            exact fun a ha => ⟨ha, rfl⟩
          refine At.wpcE [14] (by kernel_rfl) (by kernel_rfl) (.cons [10] rfl (by kernel_rfl) ?_ .nil)
          refine At.storeAll rfl rfl hb12 (sz54.trans (congrArg some ((cnE_ok hp u1.nm)).size.symm)) ((cnE_ok hp u1.nm)).size.symm ((cnE_ok hp u1.nm)).one (fun w31 S12 => ?_)
          replace hb1 := S12.other hb1 n_b1_b12
          replace hb2 := S12.other hb2 n_b2_b12
          replace hb13 := S12.other hb13 n_b12_b13.symm
          replace hb12 : w31.heap[b12]? = some (.cells (cnE (findCon p.dats u1.nm)).cs 54) := S12.new
          replace hB := S12.below' hB gb12
          refine At.ops0 ?_
          refine At.wpcN (.cons rfl rfl rfl rfl (fun Lx => ?_) .nil) ?_
          · skip
            refine At.extract rfl rfl rfl ?_
            refine At.ops0 ?_
            exact fun a ha => ⟨ha, rfl⟩
          refine At.wpcE [15] (by kernel_rfl) (by kernel_rfl) (.cons [] rfl (by kernel_rfl) ?_ .nil)
          refine At.assign rfl rfl ?_
          refine At.ops0 ?_
          refine At.wpcN .nil ?_
          refine At.wpcZ ?_
          exact At.joinedG b13 (Sub.cons rfl (Sub.cons rfl (Sub.cons rfl Sub.nil))) ⟨hB, hb2, hb13, gb13, n_b2_b13⟩
        · skip
          refine At.alloc ze52 rfl (fun b14 w32 F14 => ?_)
          have n_b1_b14 : b1 ≠ b14 := Nat.ne_of_lt (F14.lt hb1)
          have n_b2_b14 : b2 ≠ b14 := Nat.ne_of_lt (F14.lt hb2)
          have n_b12_b14 : b12 ≠ b14 := Nat.ne_of_lt (F14.lt hb12)
          have gb14 := F14.ge hB
          replace hb1 := F14.old hb1
          replace hb2 := F14.old hb2
          replace hb12 := F14.old hb12
          have hb14 : w32.heap[b14]? = some (.cells #[.string (⟨#[]⟩ : ByteArray), (.slice none 0 0)] 52) := F14.new
          replace hB := F14.below' hB
          refine At.ops0 ?_
          refine At.wpcN (.cons rfl rfl rfl rfl (fun Lx => ?_) (.cons rfl rfl rfl rfl (fun Lx => ?_) (.cons rfl rfl rfl rfl (fun Lx => ?_) (.cons rfl rfl rfl rfl (fun Lx => ?_) (.cons rfl rfl rfl rfl (fun Lx => ?_) (.cons rfl rfl rfl rfl (fun Lx => ?_) .nil)))))) ?_
          · skip
            refine At.load rfl (Ld.own ag35 (sz35.trans (congrArg some (hp).size.symm)) hb1) rfl ?_
            refine At.ops0 ?_
            exact fun a ha => ⟨ha, rfl⟩
          · skip
            refine At.fieldAddr rfl fo33_6 rfl ?_
            refine At.ops0 ?_
            exact fun a ha => ⟨ha, rfl⟩
          · skip
            refine At.load rfl (Ld.ownCell ag25 hb2 (ht).c6) rfl ?_
            refine At.ops0 ?_
            exact fun a ha => ⟨ha, rfl⟩
          · skip
            refine At.indexAddr (i := 0) rfl rfl ((ht).armsAt).okL (lt_of_some hu1) el25 sz71 rfl ?_
            refine At.ops0 ?_
            exact fun a ha => ⟨ha, rfl⟩
          · skip
            refine At.fieldAddr rfl fo71_0 rfl ?_
            refine At.ops0 ?_
            exact fun a ha => ⟨ha, rfl⟩
          · skip
            refine At.load rfl (Ld.cell ag9 (cell_keep ((((ht).armsAt).row hu1).get (((ht).arm hu1)).c0) hB)) rfl ?_
            refine At.ops0 ?_
            exact fun a ha => ⟨ha, rfl⟩
          refine At.wpcE [6] (by kernel_rfl) (by kernel_rfl) (.cons [] rfl (by kernel_rfl) ?_ .nil)
          refine At.call en19 rfl rfl (refCon_any p u1.nm _ ((hp).keep hB) (hp).hl (hp).ho (hp).hc) (fun e w33 hR => ?_)
          obtain ⟨rfl, hbl6⟩ := hR
          refine ⟨_, rfl, ?_⟩
          replace hb1 := Below.old hbl6 hb1
          replace hb2 := Below.old hbl6 hb2
          replace hb12 := Below.old hbl6 hb12
          replace hb14 := Below.old hbl6 hb14
          replace hB := Below.andThen hB hbl6
          refine At.ops0 ?_
          refine At.wpcN .nil ?_
          refine At.wpcS (i := 7) (d := 13) (.tuple #[.agg (datE (findCon p.dats u1.nm)).cs, .agg (cnE (findCon p.dats u1.nm)).cs, .bool ((findCon p.dats u1.nm).isSome)]) (by kernel_rfl) rfl rfl rfl (fun Lx => ?_) ?_
          · skip
            refine At.move rfl rfl ?_
            refine At.ops0 ?_
            exact fun a ha => ⟨ha, rfl⟩
          refine At.wpcS (i := 8) (d := 21) (.agg (datE (findCon p.dats u1.nm)).cs) (by kernel_rfl) rfl rfl rfl (fun Lx => ?_) ?_
          · skip
            refine At.extract rfl rfl rfl ?_
            refine At.ops0 ?_
            exact fun a ha => ⟨ha, rfl⟩
          refine At.wpcS (i := 9) (d := 22) (.agg (cnE (findCon p.dats u1.nm)).cs) (by kernel_rfl) rfl rfl rfl (fun Lx => ?_) ?_
          · skip
            refine At.extract rfl rfl rfl ?_
            refine At.ops0 ?_
            exact fun a ha => ⟨ha, rfl⟩
          refine At.wpcS (i := 10) (d := 23) (.bool ((findCon p.dats u1.nm).isSome)) (by kernel_rfl) rfl rfl rfl (fun Lx => ?_) ?_
          · skip
            refine At.extract rfl rfl rfl ?_
            refine At.ops0 ?_
            exact fun a ha => ⟨ha, rfl⟩
          refine At.wpcE [13] (by kernel_rfl) (by kernel_rfl) (.cons [9, 10] rfl (by kernel_rfl) ?_ .nil)
          refine At.storeAll rfl rfl hb14 (sz52.trans (congrArg some ((datE_ok hp u1.nm)).size.symm)) ((datE_ok hp u1.nm)).size.symm ((datE_ok hp u1.nm)).one (fun w34 S13 => ?_)
          replace hb1 := S13.other hb1 n_b1_b14
          replace hb2 := S13.other hb2 n_b2_b14
          replace hb12 := S13.other hb12 n_b12_b14
          replace hb14 : w34.heap[b14]? = some (.cells (datE (findCon p.dats u1.nm)).cs 52) := S13.new
          replace hB := S13.below' hB gb14
          refine At.ops0 ?_
          refine At.wpcN (.cons rfl rfl rfl rfl (fun Lx => ?_) (.cons rfl rfl rfl rfl (fun Lx => ?_) .nil)) ?_
          · skip
            refine At.extract rfl rfl rfl ?_
            refine At.ops0 ?_
            exact fun a ha => ⟨ha, rfl⟩
          · skip
            refine At.extract rfl rfl rfl ?_
            refine At.ops0 ?_
            exact fun a ha => ⟨ha, rfl⟩
          refine At.wpcE [14] (by kernel_rfl) (by kernel_rfl) (.cons [10] rfl (by kernel_rfl) ?_ .nil)
          refine At.storeAll rfl rfl hb12 (sz54.trans (congrArg some ((cnE_ok hp u1.nm)).size.symm)) ((cnE_ok hp u1.nm)).size.symm ((cnE_ok hp u1.nm)).one (fun w35 S14 => ?_)
          replace hb1 := S14.other hb1 n_b1_b12
          replace hb2 := S14.other hb2 n_b2_b12
          replace hb14 := S14.other hb14 n_b12_b14.symm
          replace hb12 : w35.heap[b12]? = some (.cells (cnE (findCon p.dats u1.nm)).cs 54) := S14.new
          replace hB := S14.below' hB gb12
          refine At.ops0 ?_
          refine At.wpcN (.cons rfl rfl rfl rfl (fun Lx => ?_) .nil) ?_
          · skip
            refine At.extract rfl rfl rfl ?_
            refine At.ops0 ?_
            exact fun a ha => ⟨ha, rfl⟩
          refine At.wpcE [15] (by kernel_rfl) (by kernel_rfl) (.cons [] rfl (by kernel_rfl) ?_ .nil)
          refine At.assign rfl rfl ?_
          refine At.ops0 ?_
          refine At.wpcN .nil ?_
          refine At.wpcZ ?_
          exact At.joinedG b14 (Sub.cons rfl (Sub.cons rfl (Sub.cons rfl Sub.nil))) ⟨hB, hb2, hb14, gb14, n_b2_b14⟩
    · skip
      clear hB hb1 hb2
      obtain ⟨hB, hb2, hb3, gb3, n_b2_b3⟩ := hS
      show At _ _ [(3, .pointer (some ⟨b2, 0, none⟩)), (5, .pointer (some ⟨b3, 0, none⟩)), (7, .bool ((findCon p.dats u1.nm).isSome))] _ _
      refine At.thenN ?_
      refine At.seq ?_
      refine At.seq ?_
      have hzc := hz.datE u1.nm
      refine At.region ?_
      refine At.move rfl rfl ?_
      refine At.not rfl rfl ?_
      refine At.move rfl rfl ?_
      refine At.cases ((!(findCon p.dats u1.nm).isSome)) (fun hg1 => ?_) (fun hg1 => ?_)
      · skip
        refine At.set (d := 26) (u := .bool true) rfl (congrArg Value.bool hg1) ?_
        refine At.no rfl rfl rfl rfl rfl rfl rfl ?_
        refine At.no rfl rfl rfl rfl rfl rfl rfl ?_
        refine At.no rfl rfl rfl rfl rfl rfl rfl ?_
        refine At.no rfl rfl rfl rfl rfl rfl rfl ?_
        refine At.no rfl rfl rfl rfl rfl rfl rfl ?_
        refine At.no rfl rfl rfl rfl rfl rfl rfl ?_
        refine At.no rfl rfl rfl rfl rfl rfl rfl ?_
        refine At.pickT rfl rfl rfl ?_
        refine At.ops0 ?_
        refine At.thenN ?_
        refine At.condT rfl ?_
        refine At.seq ?_
        refine At.region ?_
        refine At.assign rfl rfl ?_
        refine At.ops0 ?_
        refine At.thenN ?_
        refine At.retc ?_
        refine At.thenR ?_
        refine At.doneR (ResV.tmp rfl ResV.nil) ?_
        exact ⟨congrArg Ending.returned (congrArg Value.bool (Eq.symm ((matchOk_eq hu1).trans (by rw [show (findCon p.dats u1.nm).isSome = false by simpa using hg1]; rfl)))), hB⟩
      · skip
        refine At.set (d := 26) (u := .bool false) rfl (congrArg Value.bool hg1) ?_
        refine At.yes rfl rfl rfl rfl ?_
        refine At.fieldAddr rfl fo52_1 rfl ?_
        refine At.yes rfl rfl rfl rfl ?_
        refine At.load rfl (Ld.ownCell ag50 hb3 ((datE_ok hp u1.nm)).c1) rfl ?_
        refine At.yes rfl rfl rfl rfl ?_
        refine At.lenSl rfl (((datE_ok hp u1.nm)).consAt).okL el50 rfl ?_
        refine At.yes rfl rfl rfl rfl ?_
        refine At.fieldAddr rfl fo33_6 rfl ?_
        refine At.yes rfl rfl rfl rfl ?_
        refine At.load rfl (Ld.ownCell ag25 hb2 (ht).c6) rfl ?_
        refine At.yes rfl rfl rfl rfl ?_
        refine At.lenSl rfl ((ht).armsAt).okL el25 rfl ?_
        refine At.yes rfl rfl rfl rfl ?_
        refine At.neI rfl rfl rfl ?_
        refine At.pickF rfl rfl rfl ?_
        refine At.ops0 ?_
        refine At.thenN ?_
        refine At.cond (b := (!decide (((datE (findCon p.dats u1.nm)).cons.length : Int) = (t.arms.length : Int)))) rfl (fun hc2 => ?_) (fun hc2 => ?_)
        · skip
          have hc2' := hc2; simp only [Bool.not_eq_true', Bool.not_eq_false', decide_eq_true_eq, decide_eq_false_iff_not] at hc2'
          refine At.seq ?_
          refine At.region ?_
          refine At.assign rfl rfl ?_
          refine At.ops0 ?_
          refine At.thenN ?_
          refine At.retc ?_
          refine At.thenR ?_
          refine At.doneR (ResV.tmp rfl ResV.nil) ?_
          exact ⟨congrArg Ending.returned (congrArg Value.bool (Eq.symm ((matchOk_eq hu1).trans (by rw [eq2_ne (by omega)]; exact Bool.and_false _)))), hB⟩
        · skip
          have hc2' := hc2; simp only [Bool.not_eq_true', Bool.not_eq_false', decide_eq_true_eq, decide_eq_false_iff_not] at hc2'
          refine At.skip ?_
          refine At.thenN ?_
          refine At.seq ?_
          refine At.seq ?_
          refine At.region ?_
          refine At.assign rfl rfl ?_
          refine At.ops0 ?_
          refine At.thenN ?_
          refine At.block ?_
          refine At.loop (Nat) (fun k => [(3, .pointer (some ⟨b2, 0, none⟩)), (5, .pointer (some ⟨b3, 0, none⟩)), (8, .int .i64 (k : Int))]) (fun k w36 => Below w.heap.size w w36 ∧ w36.heap[b2]? = some (.cells t.cs 33) ∧ w36.heap[b3]? = some (.cells (datE (findCon p.dats u1.nm)).cs 52) ∧ (k ≤ (datE (findCon p.dats u1.nm)).cons.length) ∧ (eq2 armOk ((datE (findCon p.dats u1.nm)).cons.drop k) (t.arms.drop k) = eq2 armOk (datE (findCon p.dats u1.nm)).cons t.arms)) (fun k => (datE (findCon p.dats u1.nm)).cons.length - k) (0 : Nat) (Sub.cons rfl (Sub.cons rfl (Sub.cons rfl Sub.nil))) ⟨hB, hb2, hb3, (Nat.zero_le _), (rfl)⟩ (fun k w36 hI => ?_)
          clear hB hb2 hb3
          obtain ⟨hB, hb2, hb3, hkb, hn⟩ := hI
          show At _ _ [(3, .pointer (some ⟨b2, 0, none⟩)), (5, .pointer (some ⟨b3, 0, none⟩)), (8, .int .i64 (k : Int))] _ _
          refine At.seq ?_
          refine At.seq ?_
          refine At.region ?_
          refine At.move rfl rfl ?_
          refine At.fieldAddr rfl fo52_1 rfl ?_
          refine At.load rfl (Ld.ownCell ag50 hb3 ((datE_ok hp u1.nm)).c1) rfl ?_
          refine At.lenSl rfl (((datE_ok hp u1.nm)).consAt).okL el50 rfl ?_
          refine At.lss rfl rfl rfl ?_
          refine At.ops0 ?_
          refine At.thenN ?_
          refine At.cond (b := decide ((k : Int) < ((datE (findCon p.dats u1.nm)).cons.length : Int))) rfl (fun hc3 => ?_) (fun hc3 => ?_)
          · skip
            have hc3' := of_decide_eq_true hc3
            refine At.skip ?_
            refine At.thenN ?_
            refine At.seq ?_
            refine At.block ?_
            refine At.seq ?_
            obtain ⟨u2, hu2⟩ := some_of_lt (l := t.arms) (i := k) (by omega)
            obtain ⟨u3, hu3⟩ := some_of_lt (l := (datE (findCon p.dats u1.nm)).cons) (i := k) (by omega)
            refine At.cases ((!decide (u2.nm = u3.nm))) (fun hg2 => ?_) (fun hg2 => ?_)
            · skip
              have hg2' := hg2; simp only [Bool.not_eq_true', Bool.not_eq_false', decide_eq_true_eq, decide_eq_false_iff_not] at hg2'
              refine At.drawG (n := 39) mixed (by kernel_rfl) rfl (PanicOk.then (PanicOk.block (PanicOk.then (PanicOk.then (PanicOk.block (PanicOk.then PanicOk.body)))))) ?_
              have hB := Below.drewB hB
              have hb2 : _ := (show w36.drew.heap[b2]? = _ from hb2)
              have hb3 : _ := (show w36.drew.heap[b3]? = _ from hb3)
              refine At.wpcS (i := 0) (d := 42) (.pointer (some ⟨b2, 0 + 6, none⟩)) (by kernel_rfl) rfl rfl rfl (fun Lx => ?_) ?_
              · skip
                refine At.fieldAddr rfl fo33_6 rfl ?_
                refine At.ops0 ?_
                exact fun a ha => ⟨ha, rfl⟩
              refine At.wpcS (i := 1) (d := 43) (t.av) (by kernel_rfl) rfl rfl rfl (fun Lx => ?_) ?_
              · skip
                refine At.load rfl (Ld.ownCell ag25 hb2 (ht).c6) rfl ?_
                refine At.ops0 ?_
                exact fun a ha => ⟨ha, rfl⟩
              refine At.wpcS (i := 2) (d := 44) (.int .i64 (k : Int)) (by kernel_rfl) rfl rfl rfl (fun Lx => ?_) ?_
              · skip
                refine At.move rfl rfl ?_
                refine At.ops0 ?_
                exact fun a ha => ⟨ha, rfl⟩
              refine At.wpcS (i := 3) (d := 45) (.pointer (some ⟨vBlock t.av, vOff t.av + k * 23, none⟩)) (by kernel_rfl) rfl rfl rfl (fun Lx => ?_) ?_
              · skip
                refine At.indexAddr (i := k) rfl rfl ((ht).armsAt).okL (lt_of_some hu2) el25 sz71 rfl ?_
                refine At.ops0 ?_
                exact fun a ha => ⟨ha, rfl⟩
              refine At.wpcS (i := 4) (d := 46) (.pointer (some ⟨vBlock t.av, vOff t.av + k * 23 + 0, none⟩)) (by kernel_rfl) rfl rfl rfl (fun Lx => ?_) ?_
              · skip
                refine At.fieldAddr rfl fo71_0 rfl ?_
                refine At.ops0 ?_
                exact fun a ha => ⟨ha, rfl⟩
              refine At.wpcS (i := 5) (d := 47) (.string u2.nm) (by kernel_rfl) rfl rfl rfl (fun Lx => ?_) ?_
              · skip
                refine At.load rfl (Ld.cell ag9 (cell_keep ((((ht).armsAt).row hu2).get (((ht).arm hu2)).c0) hB)) rfl ?_
                refine At.ops0 ?_
                exact fun a ha => ⟨ha, rfl⟩
              refine At.wpcS (i := 6) (d := 48) (.pointer (some ⟨b3, 0 + 1, none⟩)) (by kernel_rfl) rfl rfl rfl (fun Lx => ?_) ?_
              · skip
                refine At.fieldAddr rfl fo52_1 rfl ?_
                refine At.ops0 ?_
                exact fun a ha => ⟨ha, rfl⟩
              refine At.wpcS (i := 7) (d := 49) ((datE (findCon p.dats u1.nm)).cv) (by kernel_rfl) rfl rfl rfl (fun Lx => ?_) ?_
              · skip
                refine At.load rfl (Ld.ownCell ag50 hb3 ((datE_ok hp u1.nm)).c1) rfl ?_
                refine At.ops0 ?_
                exact fun a ha => ⟨ha, rfl⟩
              refine At.wpcS (i := 8) (d := 50) (.int .i64 (k : Int)) (by kernel_rfl) rfl rfl rfl (fun Lx => ?_) ?_
              · skip
                refine At.move rfl rfl ?_
                refine At.ops0 ?_
                exact fun a ha => ⟨ha, rfl⟩
              refine At.wpcS (i := 9) (d := 51) (.pointer (some ⟨vBlock ((datE (findCon p.dats u1.nm)).cv), vOff ((datE (findCon p.dats u1.nm)).cv) + k * 2, none⟩)) (by kernel_rfl) rfl rfl rfl (fun Lx => ?_) ?_
              · skip
                refine At.indexAddr (i := k) rfl rfl (((datE_ok hp u1.nm)).consAt).okL (lt_of_some hu3) el50 sz54 rfl ?_
                refine At.ops0 ?_
                exact fun a ha => ⟨ha, rfl⟩
              refine At.wpcS (i := 10) (d := 52) (.pointer (some ⟨vBlock ((datE (findCon p.dats u1.nm)).cv), vOff ((datE (findCon p.dats u1.nm)).cv) + k * 2 + 0, none⟩)) (by kernel_rfl) rfl rfl rfl (fun Lx => ?_) ?_
              · skip
                refine At.fieldAddr rfl fo54_0 rfl ?_
                refine At.ops0 ?_
                exact fun a ha => ⟨ha, rfl⟩
              refine At.wpcS (i := 11) (d := 53) (.string u3.nm) (by kernel_rfl) rfl rfl rfl (fun Lx => ?_) ?_
              · skip
                refine At.load rfl (Ld.cell ag9 (cell_keep (((((datE_ok hp u1.nm)).consAt).row hu3).get ((((datE_ok hp u1.nm)).con hu3)).c0) hB)) rfl ?_
                refine At.ops0 ?_
                exact fun a ha => ⟨ha, rfl⟩
              refine At.wpcS (i := 12) (d := 54) (.bool (!decide (u2.nm = u3.nm))) (by kernel_rfl) rfl rfl rfl (fun Lx => ?_) ?_
              · skip
                refine At.neS rfl rfl rfl ?_
                refine At.ops0 ?_
                exact fun a ha => ⟨ha, rfl⟩
              refine At.set (d := 54) (u := .bool true) rfl (congrArg Value.bool hg2) ?_
              refine At.wpcS (i := 13) (d := 55) (.bool true) (by kernel_rfl) rfl rfl rfl (fun Lx => ?_) ?_
              · skip
                refine At.move rfl rfl ?_
                refine At.ops0 ?_
                exact fun a ha => ⟨ha, rfl⟩
              refine At.wpcS (i := 14) (d := 56) (undef) (by kernel_rfl) rfl rfl rfl (fun Lx => ?_) ?_
              · skip
                refine At.no rfl rfl rfl rfl rfl rfl rfl ?_
                refine At.ops0 ?_
                exact fun a ha => ⟨ha, rfl⟩
              refine At.wpcS (i := 15) (d := 57) (undef) (by kernel_rfl) rfl rfl rfl (fun Lx => ?_) ?_
              · skip
                refine At.no rfl rfl rfl rfl rfl rfl rfl ?_
                refine At.ops0 ?_
                exact fun a ha => ⟨ha, rfl⟩
              refine At.wpcS (i := 16) (d := 58) (undef) (by kernel_rfl) rfl rfl rfl (fun Lx => ?_) ?_
              · skip
                refine At.no rfl rfl rfl rfl rfl rfl rfl ?_
                refine At.ops0 ?_
                exact fun a ha => ⟨ha, rfl⟩
              refine At.wpcS (i := 17) (d := 59) (undef) (by kernel_rfl) rfl rfl rfl (fun Lx => ?_) ?_
              · skip
                refine At.no rfl rfl rfl rfl rfl rfl rfl ?_
                refine At.ops0 ?_
                exact fun a ha => ⟨ha, rfl⟩
              refine At.wpcS (i := 18) (d := 60) (undef) (by kernel_rfl) rfl rfl rfl (fun Lx => ?_) ?_
              · skip
                refine At.no rfl rfl rfl rfl rfl rfl rfl ?_
                refine At.ops0 ?_
                exact fun a ha => ⟨ha, rfl⟩
              refine At.wpcS (i := 19) (d := 61) (undef) (by kernel_rfl) rfl rfl rfl (fun Lx => ?_) ?_
              · skip
                refine At.no rfl rfl rfl rfl rfl rfl rfl ?_
                refine At.ops0 ?_
                exact fun a ha => ⟨ha, rfl⟩
              refine At.wpcS (i := 20) (d := 62) (undef) (by kernel_rfl) rfl rfl rfl (fun Lx => ?_) ?_
              · skip
                refine At.no rfl rfl rfl rfl rfl rfl rfl ?_
                refine At.ops0 ?_
                exact fun a ha => ⟨ha, rfl⟩
              refine At.wpcS (i := 21) (d := 63) (undef) (by kernel_rfl) rfl rfl rfl (fun Lx => ?_) ?_
              · skip
                refine At.no rfl rfl rfl rfl rfl rfl rfl ?_
                refine At.ops0 ?_
                exact fun a ha => ⟨ha, rfl⟩
              refine At.wpcS (i := 22) (d := 64) (undef) (by kernel_rfl) rfl rfl rfl (fun Lx => ?_) ?_
              · skip
                refine At.no rfl rfl rfl rfl rfl rfl rfl ?_
                refine At.ops0 ?_
                exact fun a ha => ⟨ha, rfl⟩
              refine At.wpcS (i := 23) (d := 65) (undef) (by kernel_rfl) rfl rfl rfl (fun Lx => ?_) ?_
              · skip
                refine At.no rfl rfl rfl rfl rfl rfl rfl ?_
                refine At.ops0 ?_
                exact fun a ha => ⟨ha, rfl⟩
              refine At.wpcS (i := 24) (d := 66) (undef) (by kernel_rfl) rfl rfl rfl (fun Lx => ?_) ?_
              · skip
                refine At.no rfl rfl rfl rfl rfl rfl rfl ?_
                refine At.ops0 ?_
                exact fun a ha => ⟨ha, rfl⟩
              refine At.wpcS (i := 25) (d := 67) (undef) (by kernel_rfl) rfl rfl rfl (fun Lx => ?_) ?_
              · skip
                refine At.no rfl rfl rfl rfl rfl rfl rfl ?_
                refine At.ops0 ?_
                exact fun a ha => ⟨ha, rfl⟩
              refine At.wpcS (i := 26) (d := 68) (undef) (by kernel_rfl) rfl rfl rfl (fun Lx => ?_) ?_
              · skip
                refine At.no rfl rfl rfl rfl rfl rfl rfl ?_
                refine At.ops0 ?_
                exact fun a ha => ⟨ha, rfl⟩
              refine At.wpcS (i := 27) (d := 69) (undef) (by kernel_rfl) rfl rfl rfl (fun Lx => ?_) ?_
              · skip
                refine At.no rfl rfl rfl rfl rfl rfl rfl ?_
                refine At.ops0 ?_
                exact fun a ha => ⟨ha, rfl⟩
              refine At.wpcS (i := 28) (d := 70) (undef) (by kernel_rfl) rfl rfl rfl (fun Lx => ?_) ?_
              · skip
                refine At.no rfl rfl rfl rfl rfl rfl rfl ?_
                refine At.ops0 ?_
                exact fun a ha => ⟨ha, rfl⟩
              refine At.wpcS (i := 29) (d := 71) (.bool true) (by kernel_rfl) rfl rfl rfl (fun Lx => ?_) ?_
              · skip
                refine At.pickT rfl rfl rfl ?_
                refine At.ops0 ?_
                exact fun a ha => ⟨ha, rfl⟩
              refine At.wpcS (i := 30) (d := 72) (.bool true) (by kernel_rfl) rfl rfl rfl (fun Lx => ?_) ?_
              · skip
                refine At.move rfl rfl ?_
                refine At.ops0 ?_
                exact fun a ha => ⟨ha, rfl⟩
              refine At.wpcS (i := 31) (d := 73) (undef) (by kernel_rfl) rfl rfl rfl (fun Lx => ?_) ?_
              · skip
                refine At.no rfl rfl rfl rfl rfl rfl rfl ?_
                refine At.ops0 ?_
                exact fun a ha => ⟨ha, rfl⟩
              refine At.wpcS (i := 32) (d := 74) (undef) (by kernel_rfl) rfl rfl rfl (fun Lx => ?_) ?_
              · skip
                refine At.no rfl rfl rfl rfl rfl rfl rfl ?_
                refine At.ops0 ?_
                exact fun a ha => ⟨ha, rfl⟩
              refine At.wpcS (i := 33) (d := 75) (undef) (by kernel_rfl) rfl rfl rfl (fun Lx => ?_) ?_
              · skip
                refine At.no rfl rfl rfl rfl rfl rfl rfl ?_
                refine At.ops0 ?_
                exact fun a ha => ⟨ha, rfl⟩
              refine At.wpcS (i := 34) (d := 76) (undef) (by kernel_rfl) rfl rfl rfl (fun Lx => ?_) ?_
              · skip
                refine At.no rfl rfl rfl rfl rfl rfl rfl ?_
                refine At.ops0 ?_
                exact fun a ha => ⟨ha, rfl⟩
              refine At.wpcS (i := 35) (d := 77) (undef) (by kernel_rfl) rfl rfl rfl (fun Lx => ?_) ?_
              · skip
                refine At.no rfl rfl rfl rfl rfl rfl rfl ?_
                refine At.ops0 ?_
                exact fun a ha => ⟨ha, rfl⟩
              refine At.wpcS (i := 36) (d := 78) (undef) (by kernel_rfl) rfl rfl rfl (fun Lx => ?_) ?_
              · skip
                refine At.no rfl rfl rfl rfl rfl rfl rfl ?_
                refine At.ops0 ?_
                exact fun a ha => ⟨ha, rfl⟩
              refine At.wpcE [37] (by kernel_rfl) (by kernel_rfl) (.cons [] rfl (by kernel_rfl) ?_ .nil)
              refine At.no rfl rfl rfl rfl rfl rfl rfl ?_
              refine At.ops0 ?_
              refine At.wpcN .nil ?_
              refine At.wpcS (i := 38) (d := 80) (.bool true) (by kernel_rfl) rfl rfl rfl (fun Lx => ?_) ?_
              · skip
                refine At.pickT rfl rfl rfl ?_
                refine At.ops0 ?_
                exact fun a ha => ⟨ha, rfl⟩
              refine At.wpcZ ?_
              refine At.thenN ?_
              refine At.condT rfl ?_
              refine At.seq ?_
              refine At.region ?_
              refine At.assign rfl rfl ?_
              refine At.ops0 ?_
              refine At.thenN ?_
              refine At.retc ?_
              refine At.inR ?_
              refine At.thenR ?_
              refine At.thenR ?_
              refine At.inR ?_
              refine At.thenR ?_
              refine At.doneR (ResV.tmp rfl ResV.nil) ?_
              have hgo : matchOk p.dats t = eq2 armOk (datE (findCon p.dats u1.nm)).cons t.arms := (matchOk_eq hu1).trans (by rw [show (findCon p.dats u1.nm).isSome = true by simpa using hg1]; exact Bool.true_and _)
              have hna : armOk u3 u2 = false := armOk_no1 (by simpa using hg2')
              exact ⟨congrArg Ending.returned (congrArg Value.bool (Eq.symm (by rw [hgo, ← hn, eq2_step hu3 hu2, hna]; rfl))), hB⟩
            · skip
              have hg2' := hg2; simp only [Bool.not_eq_true', Bool.not_eq_false', decide_eq_true_eq, decide_eq_false_iff_not] at hg2'
              refine At.cases ((!decide ((u2.vars.length : Int) = (u3.fields.length : Int)))) (fun hg3 => ?_) (fun hg3 => ?_)
              · skip
                have hg3' := hg3; simp only [Bool.not_eq_true', Bool.not_eq_false', decide_eq_true_eq, decide_eq_false_iff_not] at hg3'
                refine At.drawG (n := 39) mixed (by kernel_rfl) rfl (PanicOk.then (PanicOk.block (PanicOk.then (PanicOk.then (PanicOk.block (PanicOk.then PanicOk.body)))))) ?_
                have hB := Below.drewB hB
                have hb2 : _ := (show w36.drew.heap[b2]? = _ from hb2)
                have hb3 : _ := (show w36.drew.heap[b3]? = _ from hb3)
                refine At.wpcS (i := 0) (d := 42) (.pointer (some ⟨b2, 0 + 6, none⟩)) (by kernel_rfl) rfl rfl rfl (fun Lx => ?_) ?_
                · skip
                  refine At.fieldAddr rfl fo33_6 rfl ?_
                  refine At.ops0 ?_
                  exact fun a ha => ⟨ha, rfl⟩
                refine At.wpcS (i := 1) (d := 43) (t.av) (by kernel_rfl) rfl rfl rfl (fun Lx => ?_) ?_
                · skip
                  refine At.load rfl (Ld.ownCell ag25 hb2 (ht).c6) rfl ?_
                  refine At.ops0 ?_
                  exact fun a ha => ⟨ha, rfl⟩
                refine At.wpcS (i := 2) (d := 44) (.int .i64 (k : Int)) (by kernel_rfl) rfl rfl rfl (fun Lx => ?_) ?_
                · skip
                  refine At.move rfl rfl ?_
                  refine At.ops0 ?_
                  exact fun a ha => ⟨ha, rfl⟩
                refine At.wpcS (i := 3) (d := 45) (.pointer (some ⟨vBlock t.av, vOff t.av + k * 23, none⟩)) (by kernel_rfl) rfl rfl rfl (fun Lx => ?_) ?_
                · skip
                  refine At.indexAddr (i := k) rfl rfl ((ht).armsAt).okL (lt_of_some hu2) el25 sz71 rfl ?_
                  refine At.ops0 ?_
                  exact fun a ha => ⟨ha, rfl⟩
                refine At.wpcS (i := 4) (d := 46) (.pointer (some ⟨vBlock t.av, vOff t.av + k * 23 + 0, none⟩)) (by kernel_rfl) rfl rfl rfl (fun Lx => ?_) ?_
                · skip
                  refine At.fieldAddr rfl fo71_0 rfl ?_
                  refine At.ops0 ?_
                  exact fun a ha => ⟨ha, rfl⟩
                refine At.wpcS (i := 5) (d := 47) (.string u2.nm) (by kernel_rfl) rfl rfl rfl (fun Lx => ?_) ?_
                · skip
                  refine At.load rfl (Ld.cell ag9 (cell_keep ((((ht).armsAt).row hu2).get (((ht).arm hu2)).c0) hB)) rfl ?_
                  refine At.ops0 ?_
                  exact fun a ha => ⟨ha, rfl⟩
                refine At.wpcS (i := 6) (d := 48) (.pointer (some ⟨b3, 0 + 1, none⟩)) (by kernel_rfl) rfl rfl rfl (fun Lx => ?_) ?_
                · skip
                  refine At.fieldAddr rfl fo52_1 rfl ?_
                  refine At.ops0 ?_
                  exact fun a ha => ⟨ha, rfl⟩
                refine At.wpcS (i := 7) (d := 49) ((datE (findCon p.dats u1.nm)).cv) (by kernel_rfl) rfl rfl rfl (fun Lx => ?_) ?_
                · skip
                  refine At.load rfl (Ld.ownCell ag50 hb3 ((datE_ok hp u1.nm)).c1) rfl ?_
                  refine At.ops0 ?_
                  exact fun a ha => ⟨ha, rfl⟩
                refine At.wpcS (i := 8) (d := 50) (.int .i64 (k : Int)) (by kernel_rfl) rfl rfl rfl (fun Lx => ?_) ?_
                · skip
                  refine At.move rfl rfl ?_
                  refine At.ops0 ?_
                  exact fun a ha => ⟨ha, rfl⟩
                refine At.wpcS (i := 9) (d := 51) (.pointer (some ⟨vBlock ((datE (findCon p.dats u1.nm)).cv), vOff ((datE (findCon p.dats u1.nm)).cv) + k * 2, none⟩)) (by kernel_rfl) rfl rfl rfl (fun Lx => ?_) ?_
                · skip
                  refine At.indexAddr (i := k) rfl rfl (((datE_ok hp u1.nm)).consAt).okL (lt_of_some hu3) el50 sz54 rfl ?_
                  refine At.ops0 ?_
                  exact fun a ha => ⟨ha, rfl⟩
                refine At.wpcS (i := 10) (d := 52) (.pointer (some ⟨vBlock ((datE (findCon p.dats u1.nm)).cv), vOff ((datE (findCon p.dats u1.nm)).cv) + k * 2 + 0, none⟩)) (by kernel_rfl) rfl rfl rfl (fun Lx => ?_) ?_
                · skip
                  refine At.fieldAddr rfl fo54_0 rfl ?_
                  refine At.ops0 ?_
                  exact fun a ha => ⟨ha, rfl⟩
                refine At.wpcS (i := 11) (d := 53) (.string u3.nm) (by kernel_rfl) rfl rfl rfl (fun Lx => ?_) ?_
                · skip
                  refine At.load rfl (Ld.cell ag9 (cell_keep (((((datE_ok hp u1.nm)).consAt).row hu3).get ((((datE_ok hp u1.nm)).con hu3)).c0) hB)) rfl ?_
                  refine At.ops0 ?_
                  exact fun a ha => ⟨ha, rfl⟩
                refine At.wpcS (i := 12) (d := 54) (.bool (!decide (u2.nm = u3.nm))) (by kernel_rfl) rfl rfl rfl (fun Lx => ?_) ?_
                · skip
                  refine At.neS rfl rfl rfl ?_
                  refine At.ops0 ?_
                  exact fun a ha => ⟨ha, rfl⟩
                refine At.set (d := 54) (u := .bool false) rfl (congrArg Value.bool hg2) ?_
                refine At.wpcS (i := 13) (d := 55) (.bool false) (by kernel_rfl) rfl rfl rfl (fun Lx => ?_) ?_
                · skip
                  refine At.move rfl rfl ?_
                  refine At.ops0 ?_
                  exact fun a ha => ⟨ha, rfl⟩
                refine At.wpcS (i := 14) (d := 56) (.pointer (some ⟨b2, 0 + 6, none⟩)) (by kernel_rfl) rfl rfl rfl (fun Lx => ?_) ?_
                · skip
                  refine At.yes rfl rfl rfl rfl ?_
                  refine At.fieldAddr rfl fo33_6 rfl ?_
                  refine At.ops0 ?_
                  exact fun a ha => ⟨ha, rfl⟩
                refine At.wpcS (i := 15) (d := 57) (t.av) (by kernel_rfl) rfl rfl rfl (fun Lx => ?_) ?_
                · skip
                  refine At.yes rfl rfl rfl rfl ?_
                  refine At.load rfl (Ld.ownCell ag25 hb2 (ht).c6) rfl ?_
                  refine At.ops0 ?_
                  exact fun a ha => ⟨ha, rfl⟩
                refine At.wpcS (i := 16) (d := 58) (.int .i64 (k : Int)) (by kernel_rfl) rfl rfl rfl (fun Lx => ?_) ?_
                · skip
                  refine At.yes rfl rfl rfl rfl ?_
                  refine At.move rfl rfl ?_
                  refine At.ops0 ?_
                  exact fun a ha => ⟨ha, rfl⟩
                refine At.wpcS (i := 17) (d := 59) (.pointer (some ⟨vBlock t.av, vOff t.av + k * 23, none⟩)) (by kernel_rfl) rfl rfl rfl (fun Lx => ?_) ?_
                · skip
                  refine At.yes rfl rfl rfl rfl ?_
                  refine At.indexAddr (i := k) rfl rfl ((ht).armsAt).okL (lt_of_some hu2) el25 sz71 rfl ?_
                  refine At.ops0 ?_
                  exact fun a ha => ⟨ha, rfl⟩
                refine At.wpcS (i := 18) (d := 60) (.pointer (some ⟨vBlock t.av, vOff t.av + k * 23 + 1, none⟩)) (by kernel_rfl) rfl rfl rfl (fun Lx => ?_) ?_
                · skip
                  refine At.yes rfl rfl rfl rfl ?_
                  refine At.fieldAddr rfl fo71_1 rfl ?_
                  refine At.ops0 ?_
                  exact fun a ha => ⟨ha, rfl⟩
                refine At.wpcS (i := 19) (d := 61) (u2.vv) (by kernel_rfl) rfl rfl rfl (fun Lx => ?_) ?_
                · skip
                  refine At.yes rfl rfl rfl rfl ?_
                  refine At.load rfl (Ld.cell ag27 (cell_keep ((((ht).armsAt).row hu2).get (((ht).arm hu2)).c1) hB)) rfl ?_
                  refine At.ops0 ?_
                  exact fun a ha => ⟨ha, rfl⟩
                refine At.wpcS (i := 20) (d := 62) (.int .i64 (u2.vars.length : Int)) (by kernel_rfl) rfl rfl rfl (fun Lx => ?_) ?_
                · skip
                  refine At.yes rfl rfl rfl rfl ?_
                  refine At.lenSl rfl ((((ht).arm hu2)).varsAt).ok el27 rfl ?_
                  refine At.ops0 ?_
                  exact fun a ha => ⟨ha, rfl⟩
                refine At.wpcS (i := 21) (d := 63) (.pointer (some ⟨b3, 0 + 1, none⟩)) (by kernel_rfl) rfl rfl rfl (fun Lx => ?_) ?_
                · skip
                  refine At.yes rfl rfl rfl rfl ?_
                  refine At.fieldAddr rfl fo52_1 rfl ?_
                  refine At.ops0 ?_
                  exact fun a ha => ⟨ha, rfl⟩
                refine At.wpcS (i := 22) (d := 64) ((datE (findCon p.dats u1.nm)).cv) (by kernel_rfl) rfl rfl rfl (fun Lx => ?_) ?_
                · skip
                  refine At.yes rfl rfl rfl rfl ?_
                  refine At.load rfl (Ld.ownCell ag50 hb3 ((datE_ok hp u1.nm)).c1) rfl ?_
                  refine At.ops0 ?_
                  exact fun a ha => ⟨ha, rfl⟩
                refine At.wpcS (i := 23) (d := 65) (.int .i64 (k : Int)) (by kernel_rfl) rfl rfl rfl (fun Lx => ?_) ?_
                · skip
                  refine At.yes rfl rfl rfl rfl ?_
                  refine At.move rfl rfl ?_
                  refine At.ops0 ?_
                  exact fun a ha => ⟨ha, rfl⟩
                refine At.wpcS (i := 24) (d := 66) (.pointer (some ⟨vBlock ((datE (findCon p.dats u1.nm)).cv), vOff ((datE (findCon p.dats u1.nm)).cv) + k * 2, none⟩)) (by kernel_rfl) rfl rfl rfl (fun Lx => ?_) ?_
                · skip
                  refine At.yes rfl rfl rfl rfl ?_
                  refine At.indexAddr (i := k) rfl rfl (((datE_ok hp u1.nm)).consAt).okL (lt_of_some hu3) el50 sz54 rfl ?_
                  refine At.ops0 ?_
                  exact fun a ha => ⟨ha, rfl⟩
                refine At.wpcS (i := 25) (d := 67) (.pointer (some ⟨vBlock ((datE (findCon p.dats u1.nm)).cv), vOff ((datE (findCon p.dats u1.nm)).cv) + k * 2 + 1, none⟩)) (by kernel_rfl) rfl rfl rfl (fun Lx => ?_) ?_
                · skip
                  refine At.yes rfl rfl rfl rfl ?_
                  refine At.fieldAddr rfl fo54_1 rfl ?_
                  refine At.ops0 ?_
                  exact fun a ha => ⟨ha, rfl⟩
                refine At.wpcS (i := 26) (d := 68) (u3.fv) (by kernel_rfl) rfl rfl rfl (fun Lx => ?_) ?_
                · skip
                  refine At.yes rfl rfl rfl rfl ?_
                  refine At.load rfl (Ld.cell ag26 (cell_keep (((((datE_ok hp u1.nm)).consAt).row hu3).get ((((datE_ok hp u1.nm)).con hu3)).c1) hB)) rfl ?_
                  refine At.ops0 ?_
                  exact fun a ha => ⟨ha, rfl⟩
                refine At.wpcS (i := 27) (d := 69) (.int .i64 (u3.fields.length : Int)) (by kernel_rfl) rfl rfl rfl (fun Lx => ?_) ?_
                · skip
                  refine At.yes rfl rfl rfl rfl ?_
                  refine At.lenSl rfl (((((datE_ok hp u1.nm)).con hu3)).fieldsAt).okL el26 rfl ?_
                  refine At.ops0 ?_
                  exact fun a ha => ⟨ha, rfl⟩
                refine At.wpcS (i := 28) (d := 70) (.bool (!decide ((u2.vars.length : Int) = (u3.fields.length : Int)))) (by kernel_rfl) rfl rfl rfl (fun Lx => ?_) ?_
                · skip
                  refine At.yes rfl rfl rfl rfl ?_
                  refine At.neI rfl rfl rfl ?_
                  refine At.ops0 ?_
                  exact fun a ha => ⟨ha, rfl⟩
                refine At.set (d := 70) (u := .bool true) rfl (congrArg Value.bool hg3) ?_
                refine At.wpcS (i := 29) (d := 71) (.bool true) (by kernel_rfl) rfl rfl rfl (fun Lx => ?_) ?_
                · skip
                  refine At.pickF rfl rfl rfl ?_
                  refine At.ops0 ?_
                  exact fun a ha => ⟨ha, rfl⟩
                refine At.wpcS (i := 30) (d := 72) (.bool true) (by kernel_rfl) rfl rfl rfl (fun Lx => ?_) ?_
                · skip
                  refine At.move rfl rfl ?_
                  refine At.ops0 ?_
                  exact fun a ha => ⟨ha, rfl⟩
                refine At.wpcS (i := 31) (d := 73) (undef) (by kernel_rfl) rfl rfl rfl (fun Lx => ?_) ?_
                · skip
                  refine At.no rfl rfl rfl rfl rfl rfl rfl ?_
                  refine At.ops0 ?_
                  exact fun a ha => ⟨ha, rfl⟩
                refine At.wpcS (i := 32) (d := 74) (undef) (by kernel_rfl) rfl rfl rfl (fun Lx => ?_) ?_
                · skip
                  refine At.no rfl rfl rfl rfl rfl rfl rfl ?_
                  refine At.ops0 ?_
                  exact fun a ha => ⟨ha, rfl⟩
                refine At.wpcS (i := 33) (d := 75) (undef) (by kernel_rfl) rfl rfl rfl (fun Lx => ?_) ?_
                · skip
                  refine At.no rfl rfl rfl rfl rfl rfl rfl ?_
                  refine At.ops0 ?_
                  exact fun a ha => ⟨ha, rfl⟩
                refine At.wpcS (i := 34) (d := 76) (undef) (by kernel_rfl) rfl rfl rfl (fun Lx => ?_) ?_
                · skip
                  refine At.no rfl rfl rfl rfl rfl rfl rfl ?_
                  refine At.ops0 ?_
                  exact fun a ha => ⟨ha, rfl⟩
                refine At.wpcS (i := 35) (d := 77) (undef) (by kernel_rfl) rfl rfl rfl (fun Lx => ?_) ?_
                · skip
                  refine At.no rfl rfl rfl rfl rfl rfl rfl ?_
                  refine At.ops0 ?_
                  exact fun a ha => ⟨ha, rfl⟩
                refine At.wpcS (i := 36) (d := 78) (undef) (by kernel_rfl) rfl rfl rfl (fun Lx => ?_) ?_
                · skip
                  refine At.no rfl rfl rfl rfl rfl rfl rfl ?_
                  refine At.ops0 ?_
                  exact fun a ha => ⟨ha, rfl⟩
                refine At.wpcE [37] (by kernel_rfl) (by kernel_rfl) (.cons [] rfl (by kernel_rfl) ?_ .nil)
                refine At.no rfl rfl rfl rfl rfl rfl rfl ?_
                refine At.ops0 ?_
                refine At.wpcN .nil ?_
                refine At.wpcS (i := 38) (d := 80) (.bool true) (by kernel_rfl) rfl rfl rfl (fun Lx => ?_) ?_
                · skip
                  refine At.pickT rfl rfl rfl ?_
                  refine At.ops0 ?_
                  exact fun a ha => ⟨ha, rfl⟩
                refine At.wpcZ ?_
                refine At.thenN ?_
                refine At.condT rfl ?_
                refine At.seq ?_
                refine At.region ?_
                refine At.assign rfl rfl ?_
                refine At.ops0 ?_
                refine At.thenN ?_
                refine At.retc ?_
                refine At.inR ?_
                refine At.thenR ?_
                refine At.thenR ?_
                refine At.inR ?_
                refine At.thenR ?_
                refine At.doneR (ResV.tmp rfl ResV.nil) ?_
                have hgo : matchOk p.dats t = eq2 armOk (datE (findCon p.dats u1.nm)).cons t.arms := (matchOk_eq hu1).trans (by rw [show (findCon p.dats u1.nm).isSome = true by simpa using hg1]; exact Bool.true_and _)
                have hna : armOk u3 u2 = false := armOk_no2 (by simpa using hg3')
                exact ⟨congrArg Ending.returned (congrArg Value.bool (Eq.symm (by rw [hgo, ← hn, eq2_step hu3 hu2, hna]; rfl))), hB⟩
              · skip
                have hg3' := hg3; simp only [Bool.not_eq_true', Bool.not_eq_false', decide_eq_true_eq, decide_eq_false_iff_not] at hg3'
                refine At.drawG (n := 39) mixed (by kernel_rfl) rfl (PanicOk.then (PanicOk.block (PanicOk.then (PanicOk.then (PanicOk.block (PanicOk.then PanicOk.body)))))) ?_
                have hB := Below.drewB hB
                have hb2 : _ := (show w36.drew.heap[b2]? = _ from hb2)
                have hb3 : _ := (show w36.drew.heap[b3]? = _ from hb3)
                refine At.wpcS (i := 0) (d := 42) (.pointer (some ⟨b2, 0 + 6, none⟩)) (by kernel_rfl) rfl rfl rfl (fun Lx => ?_) ?_
                · skip
                  refine At.fieldAddr rfl fo33_6 rfl ?_
                  refine At.ops0 ?_
                  exact fun a ha => ⟨ha, rfl⟩
                refine At.wpcS (i := 1) (d := 43) (t.av) (by kernel_rfl) rfl rfl rfl (fun Lx => ?_) ?_
                · skip
                  refine At.load rfl (Ld.ownCell ag25 hb2 (ht).c6) rfl ?_
                  refine At.ops0 ?_
                  exact fun a ha => ⟨ha, rfl⟩
                refine At.wpcS (i := 2) (d := 44) (.int .i64 (k : Int)) (by kernel_rfl) rfl rfl rfl (fun Lx => ?_) ?_
                · skip
                  refine At.move rfl rfl ?_
                  refine At.ops0 ?_
                  exact fun a ha => ⟨ha, rfl⟩
                refine At.wpcS (i := 3) (d := 45) (.pointer (some ⟨vBlock t.av, vOff t.av + k * 23, none⟩)) (by kernel_rfl) rfl rfl rfl (fun Lx => ?_) ?_
                · skip
                  refine At.indexAddr (i := k) rfl rfl ((ht).armsAt).okL (lt_of_some hu2) el25 sz71 rfl ?_
                  refine At.ops0 ?_
                  exact fun a ha => ⟨ha, rfl⟩
                refine At.wpcS (i := 4) (d := 46) (.pointer (some ⟨vBlock t.av, vOff t.av + k * 23 + 0, none⟩)) (by kernel_rfl) rfl rfl rfl (fun Lx => ?_) ?_
                · skip
                  refine At.fieldAddr rfl fo71_0 rfl ?_
                  refine At.ops0 ?_
                  exact fun a ha => ⟨ha, rfl⟩
                refine At.wpcS (i := 5) (d := 47) (.string u2.nm) (by kernel_rfl) rfl rfl rfl (fun Lx => ?_) ?_
                · skip
                  refine At.load rfl (Ld.cell ag9 (cell_keep ((((ht).armsAt).row hu2).get (((ht).arm hu2)).c0) hB)) rfl ?_
                  refine At.ops0 ?_
                  exact fun a ha => ⟨ha, rfl⟩
                refine At.wpcS (i := 6) (d := 48) (.pointer (some ⟨b3, 0 + 1, none⟩)) (by kernel_rfl) rfl rfl rfl (fun Lx => ?_) ?_
                · skip
                  refine At.fieldAddr rfl fo52_1 rfl ?_
                  refine At.ops0 ?_
                  exact fun a ha => ⟨ha, rfl⟩
                refine At.wpcS (i := 7) (d := 49) ((datE (findCon p.dats u1.nm)).cv) (by kernel_rfl) rfl rfl rfl (fun Lx => ?_) ?_
                · skip
                  refine At.load rfl (Ld.ownCell ag50 hb3 ((datE_ok hp u1.nm)).c1) rfl ?_
                  refine At.ops0 ?_
                  exact fun a ha => ⟨ha, rfl⟩
                refine At.wpcS (i := 8) (d := 50) (.int .i64 (k : Int)) (by kernel_rfl) rfl rfl rfl (fun Lx => ?_) ?_
                · skip
                  refine At.move rfl rfl ?_
                  refine At.ops0 ?_
                  exact fun a ha => ⟨ha, rfl⟩
                refine At.wpcS (i := 9) (d := 51) (.pointer (some ⟨vBlock ((datE (findCon p.dats u1.nm)).cv), vOff ((datE (findCon p.dats u1.nm)).cv) + k * 2, none⟩)) (by kernel_rfl) rfl rfl rfl (fun Lx => ?_) ?_
                · skip
                  refine At.indexAddr (i := k) rfl rfl (((datE_ok hp u1.nm)).consAt).okL (lt_of_some hu3) el50 sz54 rfl ?_
                  refine At.ops0 ?_
                  exact fun a ha => ⟨ha, rfl⟩
                refine At.wpcS (i := 10) (d := 52) (.pointer (some ⟨vBlock ((datE (findCon p.dats u1.nm)).cv), vOff ((datE (findCon p.dats u1.nm)).cv) + k * 2 + 0, none⟩)) (by kernel_rfl) rfl rfl rfl (fun Lx => ?_) ?_
                · skip
                  refine At.fieldAddr rfl fo54_0 rfl ?_
                  refine At.ops0 ?_
                  exact fun a ha => ⟨ha, rfl⟩
                refine At.wpcS (i := 11) (d := 53) (.string u3.nm) (by kernel_rfl) rfl rfl rfl (fun Lx => ?_) ?_
                · skip
                  refine At.load rfl (Ld.cell ag9 (cell_keep (((((datE_ok hp u1.nm)).consAt).row hu3).get ((((datE_ok hp u1.nm)).con hu3)).c0) hB)) rfl ?_
                  refine At.ops0 ?_
                  exact fun a ha => ⟨ha, rfl⟩
                refine At.wpcS (i := 12) (d := 54) (.bool (!decide (u2.nm = u3.nm))) (by kernel_rfl) rfl rfl rfl (fun Lx => ?_) ?_
                · skip
                  refine At.neS rfl rfl rfl ?_
                  refine At.ops0 ?_
                  exact fun a ha => ⟨ha, rfl⟩
                refine At.set (d := 54) (u := .bool false) rfl (congrArg Value.bool hg2) ?_
                refine At.wpcS (i := 13) (d := 55) (.bool false) (by kernel_rfl) rfl rfl rfl (fun Lx => ?_) ?_
                · skip
                  refine At.move rfl rfl ?_
                  refine At.ops0 ?_
                  exact fun a ha => ⟨ha, rfl⟩
                refine At.wpcS (i := 14) (d := 56) (.pointer (some ⟨b2, 0 + 6, none⟩)) (by kernel_rfl) rfl rfl rfl (fun Lx => ?_) ?_
                · skip
                  refine At.yes rfl rfl rfl rfl ?_
                  refine At.fieldAddr rfl fo33_6 rfl ?_
                  refine At.ops0 ?_
                  exact fun a ha => ⟨ha, rfl⟩
                refine At.wpcS (i := 15) (d := 57) (t.av) (by kernel_rfl) rfl rfl rfl (fun Lx => ?_) ?_
                · skip
                  refine At.yes rfl rfl rfl rfl ?_
                  refine At.load rfl (Ld.ownCell ag25 hb2 (ht).c6) rfl ?_
                  refine At.ops0 ?_
                  exact fun a ha => ⟨ha, rfl⟩
                refine At.wpcS (i := 16) (d := 58) (.int .i64 (k : Int)) (by kernel_rfl) rfl rfl rfl (fun Lx => ?_) ?_
                · skip
                  refine At.yes rfl rfl rfl rfl ?_
                  refine At.move rfl rfl ?_
                  refine At.ops0 ?_
                  exact fun a ha => ⟨ha, rfl⟩
                refine At.wpcS (i := 17) (d := 59) (.pointer (some ⟨vBlock t.av, vOff t.av + k * 23, none⟩)) (by kernel_rfl) rfl rfl rfl (fun Lx => ?_) ?_
                · skip
                  refine At.yes rfl rfl rfl rfl ?_
                  refine At.indexAddr (i := k) rfl rfl ((ht).armsAt).okL (lt_of_some hu2) el25 sz71 rfl ?_
                  refine At.ops0 ?_
                  exact fun a ha => ⟨ha, rfl⟩
                refine At.wpcS (i := 18) (d := 60) (.pointer (some ⟨vBlock t.av, vOff t.av + k * 23 + 1, none⟩)) (by kernel_rfl) rfl rfl rfl (fun Lx => ?_) ?_
                · skip
                  refine At.yes rfl rfl rfl rfl ?_
                  refine At.fieldAddr rfl fo71_1 rfl ?_
                  refine At.ops0 ?_
                  exact fun a ha => ⟨ha, rfl⟩
                refine At.wpcS (i := 19) (d := 61) (u2.vv) (by kernel_rfl) rfl rfl rfl (fun Lx => ?_) ?_
                · skip
                  refine At.yes rfl rfl rfl rfl ?_
                  refine At.load rfl (Ld.cell ag27 (cell_keep ((((ht).armsAt).row hu2).get (((ht).arm hu2)).c1) hB)) rfl ?_
                  refine At.ops0 ?_
                  exact fun a ha => ⟨ha, rfl⟩
                refine At.wpcS (i := 20) (d := 62) (.int .i64 (u2.vars.length : Int)) (by kernel_rfl) rfl rfl rfl (fun Lx => ?_) ?_
                · skip
                  refine At.yes rfl rfl rfl rfl ?_
                  refine At.lenSl rfl ((((ht).arm hu2)).varsAt).ok el27 rfl ?_
                  refine At.ops0 ?_
                  exact fun a ha => ⟨ha, rfl⟩
                refine At.wpcS (i := 21) (d := 63) (.pointer (some ⟨b3, 0 + 1, none⟩)) (by kernel_rfl) rfl rfl rfl (fun Lx => ?_) ?_
                · skip
                  refine At.yes rfl rfl rfl rfl ?_
                  refine At.fieldAddr rfl fo52_1 rfl ?_
                  refine At.ops0 ?_
                  exact fun a ha => ⟨ha, rfl⟩
                refine At.wpcS (i := 22) (d := 64) ((datE (findCon p.dats u1.nm)).cv) (by kernel_rfl) rfl rfl rfl (fun Lx => ?_) ?_
                · skip
                  refine At.yes rfl rfl rfl rfl ?_
                  refine At.load rfl (Ld.ownCell ag50 hb3 ((datE_ok hp u1.nm)).c1) rfl ?_
                  refine At.ops0 ?_
                  exact fun a ha => ⟨ha, rfl⟩
                refine At.wpcS (i := 23) (d := 65) (.int .i64 (k : Int)) (by kernel_rfl) rfl rfl rfl (fun Lx => ?_) ?_
                · skip
                  refine At.yes rfl rfl rfl rfl ?_
                  refine At.move rfl rfl ?_
                  refine At.ops0 ?_
                  exact fun a ha => ⟨ha, rfl⟩
                refine At.wpcS (i := 24) (d := 66) (.pointer (some ⟨vBlock ((datE (findCon p.dats u1.nm)).cv), vOff ((datE (findCon p.dats u1.nm)).cv) + k * 2, none⟩)) (by kernel_rfl) rfl rfl rfl (fun Lx => ?_) ?_
                · skip
                  refine At.yes rfl rfl rfl rfl ?_
                  refine At.indexAddr (i := k) rfl rfl (((datE_ok hp u1.nm)).consAt).okL (lt_of_some hu3) el50 sz54 rfl ?_
                  refine At.ops0 ?_
                  exact fun a ha => ⟨ha, rfl⟩
                refine At.wpcS (i := 25) (d := 67) (.pointer (some ⟨vBlock ((datE (findCon p.dats u1.nm)).cv), vOff ((datE (findCon p.dats u1.nm)).cv) + k * 2 + 1, none⟩)) (by kernel_rfl) rfl rfl rfl (fun Lx => ?_) ?_
                · skip
                  refine At.yes rfl rfl rfl rfl ?_
                  refine At.fieldAddr rfl fo54_1 rfl ?_
                  refine At.ops0 ?_
                  exact fun a ha => ⟨ha, rfl⟩
                refine At.wpcS (i := 26) (d := 68) (u3.fv) (by kernel_rfl) rfl rfl rfl (fun Lx => ?_) ?_
                · skip
                  refine At.yes rfl rfl rfl rfl ?_
                  refine At.load rfl (Ld.cell ag26 (cell_keep (((((datE_ok hp u1.nm)).consAt).row hu3).get ((((datE_ok hp u1.nm)).con hu3)).c1) hB)) rfl ?_
                  refine At.ops0 ?_
                  exact fun a ha => ⟨ha, rfl⟩
                refine At.wpcS (i := 27) (d := 69) (.int .i64 (u3.fields.length : Int)) (by kernel_rfl) rfl rfl rfl (fun Lx => ?_) ?_
                · skip
                  refine At.yes rfl rfl rfl rfl ?_
                  refine At.lenSl rfl (((((datE_ok hp u1.nm)).con hu3)).fieldsAt).okL el26 rfl ?_
                  refine At.ops0 ?_
                  exact fun a ha => ⟨ha, rfl⟩
                refine At.wpcS (i := 28) (d := 70) (.bool (!decide ((u2.vars.length : Int) = (u3.fields.length : Int)))) (by kernel_rfl) rfl rfl rfl (fun Lx => ?_) ?_
                · skip
                  refine At.yes rfl rfl rfl rfl ?_
                  refine At.neI rfl rfl rfl ?_
                  refine At.ops0 ?_
                  exact fun a ha => ⟨ha, rfl⟩
                refine At.set (d := 70) (u := .bool false) rfl (congrArg Value.bool hg3) ?_
                refine At.wpcS (i := 29) (d := 71) (.bool false) (by kernel_rfl) rfl rfl rfl (fun Lx => ?_) ?_
                · skip
                  refine At.pickF rfl rfl rfl ?_
                  refine At.ops0 ?_
                  exact fun a ha => ⟨ha, rfl⟩
                refine At.wpcS (i := 30) (d := 72) (.bool false) (by kernel_rfl) rfl rfl rfl (fun Lx => ?_) ?_
                · skip
                  refine At.move rfl rfl ?_
                  refine At.ops0 ?_
                  exact fun a ha => ⟨ha, rfl⟩
                refine At.wpcS (i := 31) (d := 73) (.pointer (some ⟨b2, 0 + 6, none⟩)) (by kernel_rfl) rfl rfl rfl (fun Lx => ?_) ?_
                · skip
                  refine At.yes rfl rfl rfl rfl ?_
                  refine At.fieldAddr rfl fo33_6 rfl ?_
                  refine At.ops0 ?_
                  exact fun a ha => ⟨ha, rfl⟩
                refine At.wpcS (i := 32) (d := 74) (t.av) (by kernel_rfl) rfl rfl rfl (fun Lx => ?_) ?_
                · skip
                  refine At.yes rfl rfl rfl rfl ?_
                  refine At.load rfl (Ld.ownCell ag25 hb2 (ht).c6) rfl ?_
                  refine At.ops0 ?_
                  exact fun a ha => ⟨ha, rfl⟩
                refine At.wpcS (i := 33) (d := 75) (.int .i64 (k : Int)) (by kernel_rfl) rfl rfl rfl (fun Lx => ?_) ?_
                · skip
                  refine At.yes rfl rfl rfl rfl ?_
                  refine At.move rfl rfl ?_
                  refine At.ops0 ?_
                  exact fun a ha => ⟨ha, rfl⟩
                refine At.wpcS (i := 34) (d := 76) (.pointer (some ⟨vBlock t.av, vOff t.av + k * 23, none⟩)) (by kernel_rfl) rfl rfl rfl (fun Lx => ?_) ?_
                · skip
                  refine At.yes rfl rfl rfl rfl ?_
                  refine At.indexAddr (i := k) rfl rfl ((ht).armsAt).okL (lt_of_some hu2) el25 sz71 rfl ?_
                  refine At.ops0 ?_
                  exact fun a ha => ⟨ha, rfl⟩
                refine At.wpcS (i := 35) (d := 77) (.pointer (some ⟨vBlock t.av, vOff t.av + k * 23 + 1, none⟩)) (by kernel_rfl) rfl rfl rfl (fun Lx => ?_) ?_
                · skip
                  refine At.yes rfl rfl rfl rfl ?_
                  refine At.fieldAddr rfl fo71_1 rfl ?_
                  refine At.ops0 ?_
                  exact fun a ha => ⟨ha, rfl⟩
                refine At.wpcS (i := 36) (d := 78) (u2.vv) (by kernel_rfl) rfl rfl rfl (fun Lx => ?_) ?_
                · skip
                  refine At.yes rfl rfl rfl rfl ?_
                  refine At.load rfl (Ld.cell ag27 (cell_keep ((((ht).armsAt).row hu2).get (((ht).arm hu2)).c1) hB)) rfl ?_
                  refine At.ops0 ?_
                  exact fun a ha => ⟨ha, rfl⟩
                refine At.wpcE [37] (by kernel_rfl) (by kernel_rfl) (.cons [] rfl (by kernel_rfl) ?_ .nil)
                refine At.yes rfl rfl rfl rfl ?_
                refine At.call en66 rfl rfl (twice_any u2.vv u2.vars _ (((((ht).arm hu2)).varsAt).keep hB) (hvl _ (List.mem_of_getElem? hu2))) (fun e w37 hR => ?_)
                obtain ⟨rfl, hbl7⟩ := hR
                refine ⟨_, rfl, ?_⟩
                replace hb2 := Below.old hbl7 hb2
                replace hb3 := Below.old hbl7 hb3
                replace hB := Below.andThen hB hbl7
                refine At.ops0 ?_
                refine At.wpcN .nil ?_
                refine At.wpcS (i := 38) (d := 80) (.bool (twiceFrom [] u2.vars)) (by kernel_rfl) rfl rfl rfl (fun Lx => ?_) ?_
                · skip
                  refine At.pickF rfl rfl rfl ?_
                  refine At.ops0 ?_
                  exact fun a ha => ⟨ha, rfl⟩
                refine At.wpcZ ?_
                refine At.thenN ?_
                refine At.cond (b := (twiceFrom [] u2.vars)) rfl (fun hc4 => ?_) (fun hc4 => ?_)
                · skip
                  refine At.seq ?_
                  refine At.region ?_
                  refine At.assign rfl rfl ?_
                  refine At.ops0 ?_
                  refine At.thenN ?_
                  refine At.retc ?_
                  refine At.inR ?_
                  refine At.thenR ?_
                  refine At.thenR ?_
                  refine At.inR ?_
                  refine At.thenR ?_
                  refine At.doneR (ResV.tmp rfl ResV.nil) ?_
                  have hgo : matchOk p.dats t = eq2 armOk (datE (findCon p.dats u1.nm)).cons t.arms := (matchOk_eq hu1).trans (by rw [show (findCon p.dats u1.nm).isSome = true by simpa using hg1]; exact Bool.true_and _)
                  have hna : armOk u3 u2 = false := (armOk_go (by simpa using hg2') (by simpa using hg3')).trans (by rw [hc4]; rfl)
                  exact ⟨congrArg Ending.returned (congrArg Value.bool (Eq.symm (by rw [hgo, ← hn, eq2_step hu3 hu2, hna]; rfl))), hB⟩
                · skip
                  refine At.skip ?_
                  refine At.inN ?_
                  refine At.thenN ?_
                  refine At.region ?_
                  refine At.move rfl rfl ?_
                  refine At.addI rfl rfl rfl (by omega) ?_
                  refine At.assign rfl rfl ?_
                  refine At.ops0 ?_
                  refine At.thenN ?_
                  have hna : armOk u3 u2 = true := (armOk_go (by simpa using hg2') (by simpa using hg3')).trans (by rw [hc4]; rfl)
                  exact fun a ha => ⟨(k + 1), ha.sub (Sub.cons rfl (Sub.cons rfl (Sub.cons rfl Sub.nil))), ⟨hB, hb2, hb3, (by omega), (by rw [← hn, eq2_step hu3 hu2, hna]; rfl)⟩, by first | omega | (dsimp only; omega)⟩
          · skip
            have hc3' := of_decide_eq_false hc3
            refine At.exit ?_
            refine At.thenE ?_
            refine At.thenE ?_
            refine At.inE ?_
            refine At.thenN ?_
            refine At.seq ?_
            refine At.region ?_
            refine At.assign rfl rfl ?_
            refine At.ops0 ?_
            refine At.thenN ?_
            refine At.retc ?_
            refine At.doneR (ResV.tmp rfl ResV.nil) ?_
            have hgo : matchOk p.dats t = eq2 armOk (datE (findCon p.dats u1.nm)).cons t.arms := (matchOk_eq hu1).trans (by rw [show (findCon p.dats u1.nm).isSome = true by simpa using hg1]; exact Bool.true_and _)
            exact ⟨congrArg Ending.returned (congrArg Value.bool (Eq.symm (by rw [hgo, ← hn, List.drop_eq_nil_of_le (by omega), List.drop_eq_nil_of_le (by omega)]; rfl))), hB⟩
end Go.Proofs.Ytkclfcdppnlkbaa
