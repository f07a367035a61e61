/-
  The walk of the statement LexFirst. Written by a program of ours.
-/
import Derived.Test.YtkalnkedpiemaaaV6
import Derived.Test.YtkalnkedpiemaaaL13
set_option linter.unusedVariables false
set_option linter.unusedSimpArgs false
namespace Go.Proofs.Ytkalnkedpiemaaa
open Go.RowKit

theorem lexFirst_any (v : Value) (l : List UInt8) (c : UInt8) (v2 : Value) (l2 : List UInt8) (m : Int) (w : World) (hv : BytesAt w v l) (hv2 : BytesAt w v2 l2) (hm : w.cell? ⟨0, 0, none⟩ = some (.int .i64 m)) :
    Calls Try.prog 5 ([v, .int .u8 (c.toNat : Int), v2] : List Value).toArray w fun e w' => e = .returned (.bool true) ∧ Below w.heap.size w w' := by
  have hB := Below.refl w.heap.size w
  refine At.enter (N := 164) Try.func5 rfl rfl (by simp) [(0, v), (1, .int .u8 (c.toNat : Int)), (2, v2)] (by simp) ?_
  refine At.seq ?_
  refine At.region ?_
  refine At.assign rfl rfl ?_
  refine At.ops0 ?_
  refine At.thenN ?_
  refine At.seq ?_
  refine At.region ?_
  refine At.call en10 rfl rfl (shown_any m _ (cell_keep hm hB)) (fun e w1 hR => ?_)
  obtain ⟨rfl, hbl1⟩ := hR
  refine ⟨_, rfl, ?_⟩
  replace hB := Below.andThen hB hbl1
  refine At.assign rfl rfl ?_
  refine At.ops0 ?_
  refine At.thenN ?_
  refine At.seq ?_
  refine At.region ?_
  refine At.move rfl rfl ?_
  refine At.move rfl rfl ?_
  refine At.lenSl rfl (BytesAt.ok hv) el22 rfl ?_
  refine At.minI rfl rfl rfl ?_
  refine At.set (d := 20) (u := .int .i64 (((min l.length 2000) : Nat) : Int)) rfl (congrArg (Value.int .i64) (min_lit _ _)) ?_
  have hle1 : (min l.length 2000) ≤ l.length := by omega
  refine At.sliceTo (h := (min l.length 2000)) rfl rfl (BytesAt.ok hv) el22 sz5 hle1 rfl ?_
  obtain ⟨S1, hS1, bS1⟩ : ∃ x : List UInt8, (l.take (min l.length 2000)) = x ∧ x.length ≤ 2000 := ⟨_, rfl, by simp only [List.length_take]; omega⟩
  refine At.assign rfl rfl ?_
  refine At.ops0 ?_
  refine At.thenN ?_
  refine At.seq ?_
  refine At.region ?_
  refine At.move rfl rfl ?_
  refine At.move rfl rfl ?_
  refine At.lenSl rfl (BytesAt.ok hv2) el22 rfl ?_
  refine At.minI rfl rfl rfl ?_
  refine At.set (d := 25) (u := .int .i64 (((min l2.length 200) : Nat) : Int)) rfl (congrArg (Value.int .i64) (min_lit _ _)) ?_
  have hle2 : (min l2.length 200) ≤ l2.length := by omega
  refine At.sliceTo (h := (min l2.length 200)) rfl rfl (BytesAt.ok hv2) el22 sz5 hle2 rfl ?_
  obtain ⟨S2, hS2, bS2⟩ : ∃ x : List UInt8, (l2.take (min l2.length 200)) = x ∧ x.length ≤ 200 := ⟨_, rfl, by simp only [List.length_take]; omega⟩
  refine At.assign rfl rfl ?_
  refine At.ops0 ?_
  refine At.thenN ?_
  refine At.seq ?_
  refine At.region ?_
  refine At.move rfl rfl ?_
  refine At.call en11 rfl rfl (lex_to (takeV v (min l.length 2000)) S1 m _ (lexT S1) (lexA S1) (lexE S1) ⟨rfl, rfl, rfl⟩ (BytesAt.keep (BytesAt.eqL (BytesAt.take hv hle1) hS1) hB) (cell_keep hm hB)) (fun e w2 hR => ?_)
  obtain ⟨vt1, rfl, hbl2, hO1, ghO1⟩ := hR
  refine ⟨_, rfl, ?_⟩
  replace ghO1 : ∀ g, Value.ownBlock vt1 = some g → w.heap.size ≤ g := fun g h => Nat.le_trans hB.size (ghO1 g h)
  replace hB := Below.andThen hB hbl2
  refine At.move rfl rfl ?_
  refine At.extract rfl rfl rfl ?_
  refine At.extract rfl rfl rfl ?_
  refine At.extract rfl rfl rfl ?_
  refine At.assign rfl rfl ?_
  refine At.assign rfl rfl ?_
  refine At.assign rfl rfl ?_
  refine At.ops0 ?_
  refine At.thenN ?_
  refine At.seq ?_
  refine At.region ?_
  refine At.join [(0, (takeV v (min l.length 2000))), (1, .int .u8 (c.toNat : Int)), (2, (takeV v2 (min l2.length 200))), (7, .bool true), (10, .int .i64 (lexE S1)), (11, .bool (((((((((((((((((((((decide (128 ≤ (c.toNat : Int)) || decide ((c.toNat : Int) = 36)) || decide ((c.toNat : Int) = 34)) || decide ((c.toNat : Int) = 37)) || decide ((c.toNat : Int) = 38)) || decide ((c.toNat : Int) = 39)) || decide ((c.toNat : Int) = 46)) || decide ((c.toNat : Int) = 62)) || decide ((c.toNat : Int) = 63)) || decide ((c.toNat : Int) = 64)) || decide ((c.toNat : Int) = 91)) || decide ((c.toNat : Int) = 92)) || decide ((c.toNat : Int) = 93)) || decide ((c.toNat : Int) = 94)) || decide ((c.toNat : Int) = 96)) || decide ((c.toNat : Int) = 124)) || decide ((c.toNat : Int) = 126)) || decide ((c.toNat : Int) < 9)) || decide ((c.toNat : Int) = 11)) || decide ((c.toNat : Int) = 12)) || (decide (13 < (c.toNat : Int)) && decide ((c.toNat : Int) < 32))) || decide ((c.toNat : Int) = 127)))] (fun w' => w2 = w') ?_ (fun w3 hS => ?_)
  · skip
    refine At.move rfl rfl ?_
    refine At.geq rfl rfl rfl ?_
    refine At.move rfl rfl ?_
    refine At.cases (decide (128 ≤ (c.toNat : Int))) (fun hg1 => ?_) (fun hg1 => ?_)
    · skip
      refine At.set (d := 35) (u := .bool true) rfl (congrArg Value.bool hg1) ?_
      have hg1' := of_decide_eq_true hg1
      refine At.no rfl rfl rfl rfl rfl rfl rfl ?_
      refine At.no rfl rfl rfl rfl rfl rfl rfl ?_
      refine At.pickT rfl rfl rfl ?_
      refine At.move rfl rfl ?_
      refine At.no rfl rfl rfl rfl rfl rfl rfl ?_
      refine At.no rfl rfl rfl rfl rfl rfl rfl ?_
      refine At.pickT rfl rfl rfl ?_
      refine At.move rfl rfl ?_
      refine At.no rfl rfl rfl rfl rfl rfl rfl ?_
      refine At.no rfl rfl rfl rfl rfl rfl rfl ?_
      refine At.pickT rfl rfl rfl ?_
      refine At.move rfl rfl ?_
      refine At.no rfl rfl rfl rfl rfl rfl rfl ?_
      refine At.no rfl rfl rfl rfl rfl rfl rfl ?_
      refine At.pickT rfl rfl rfl ?_
      refine At.move rfl rfl ?_
      refine At.no rfl rfl rfl rfl rfl rfl rfl ?_
      refine At.no rfl rfl rfl rfl rfl rfl rfl ?_
      refine At.pickT rfl rfl rfl ?_
      refine At.move rfl rfl ?_
      refine At.no rfl rfl rfl rfl rfl rfl rfl ?_
      refine At.no rfl rfl rfl rfl rfl rfl rfl ?_
      refine At.pickT rfl rfl rfl ?_
      refine At.move rfl rfl ?_
      refine At.no rfl rfl rfl rfl rfl rfl rfl ?_
      refine At.no rfl rfl rfl rfl rfl rfl rfl ?_
      refine At.pickT rfl rfl rfl ?_
      refine At.move rfl rfl ?_
      refine At.no rfl rfl rfl rfl rfl rfl rfl ?_
      refine At.no rfl rfl rfl rfl rfl rfl rfl ?_
      refine At.pickT rfl rfl rfl ?_
      refine At.move rfl rfl ?_
      refine At.no rfl rfl rfl rfl rfl rfl rfl ?_
      refine At.no rfl rfl rfl rfl rfl rfl rfl ?_
      refine At.pickT rfl rfl rfl ?_
      refine At.move rfl rfl ?_
      refine At.no rfl rfl rfl rfl rfl rfl rfl ?_
      refine At.no rfl rfl rfl rfl rfl rfl rfl ?_
      refine At.pickT rfl rfl rfl ?_
      refine At.move rfl rfl ?_
      refine At.no rfl rfl rfl rfl rfl rfl rfl ?_
      refine At.no rfl rfl rfl rfl rfl rfl rfl ?_
      refine At.pickT rfl rfl rfl ?_
      refine At.move rfl rfl ?_
      refine At.no rfl rfl rfl rfl rfl rfl rfl ?_
      refine At.no rfl rfl rfl rfl rfl rfl rfl ?_
      refine At.pickT rfl rfl rfl ?_
      refine At.move rfl rfl ?_
      refine At.no rfl rfl rfl rfl rfl rfl rfl ?_
      refine At.no rfl rfl rfl rfl rfl rfl rfl ?_
      refine At.pickT rfl rfl rfl ?_
      refine At.move rfl rfl ?_
      refine At.no rfl rfl rfl rfl rfl rfl rfl ?_
      refine At.no rfl rfl rfl rfl rfl rfl rfl ?_
      refine At.pickT rfl rfl rfl ?_
      refine At.move rfl rfl ?_
      refine At.no rfl rfl rfl rfl rfl rfl rfl ?_
      refine At.no rfl rfl rfl rfl rfl rfl rfl ?_
      refine At.pickT rfl rfl rfl ?_
      refine At.move rfl rfl ?_
      refine At.no rfl rfl rfl rfl rfl rfl rfl ?_
      refine At.no rfl rfl rfl rfl rfl rfl rfl ?_
      refine At.pickT rfl rfl rfl ?_
      refine At.move rfl rfl ?_
      refine At.no rfl rfl rfl rfl rfl rfl rfl ?_
      refine At.no rfl rfl rfl rfl rfl rfl rfl ?_
      refine At.pickT rfl rfl rfl ?_
      refine At.move rfl rfl ?_
      refine At.no rfl rfl rfl rfl rfl rfl rfl ?_
      refine At.no rfl rfl rfl rfl rfl rfl rfl ?_
      refine At.pickT rfl rfl rfl ?_
      refine At.move rfl rfl ?_
      refine At.no rfl rfl rfl rfl rfl rfl rfl ?_
      refine At.no rfl rfl rfl rfl rfl rfl rfl ?_
      refine At.pickT rfl rfl rfl ?_
      refine At.move rfl rfl ?_
      refine At.no rfl rfl rfl rfl rfl rfl rfl ?_
      refine At.no rfl rfl rfl rfl rfl rfl rfl ?_
      refine At.no rfl rfl rfl rfl rfl rfl rfl ?_
      refine At.noU rfl rfl rfl rfl rfl rfl ?_
      refine At.noU rfl rfl rfl rfl rfl rfl ?_
      refine At.no rfl rfl rfl rfl rfl rfl rfl ?_
      refine At.pickT rfl rfl rfl ?_
      refine At.move rfl rfl ?_
      refine At.no rfl rfl rfl rfl rfl rfl rfl ?_
      refine At.no rfl rfl rfl rfl rfl rfl rfl ?_
      refine At.pickT rfl rfl rfl ?_
      refine At.assign rfl rfl ?_
      exact At.joined (Sub.cons rfl (Sub.cons rfl (Sub.cons rfl (Sub.cons rfl (Sub.cons rfl (Sub.cons (by show some (Value.bool true) = some (Value.bool (((((((((((((((((((((decide (128 ≤ (c.toNat : Int)) || decide ((c.toNat : Int) = 36)) || decide ((c.toNat : Int) = 34)) || decide ((c.toNat : Int) = 37)) || decide ((c.toNat : Int) = 38)) || decide ((c.toNat : Int) = 39)) || decide ((c.toNat : Int) = 46)) || decide ((c.toNat : Int) = 62)) || decide ((c.toNat : Int) = 63)) || decide ((c.toNat : Int) = 64)) || decide ((c.toNat : Int) = 91)) || decide ((c.toNat : Int) = 92)) || decide ((c.toNat : Int) = 93)) || decide ((c.toNat : Int) = 94)) || decide ((c.toNat : Int) = 96)) || decide ((c.toNat : Int) = 124)) || decide ((c.toNat : Int) = 126)) || decide ((c.toNat : Int) < 9)) || decide ((c.toNat : Int) = 11)) || decide ((c.toNat : Int) = 12)) || (decide (13 < (c.toNat : Int)) && decide ((c.toNat : Int) < 32))) || decide ((c.toNat : Int) = 127))); rw [hg1]; rfl) Sub.nil)))))) rfl
    · skip
      refine At.set (d := 35) (u := .bool false) rfl (congrArg Value.bool hg1) ?_
      have hg1' := of_decide_eq_false hg1
      refine At.yes rfl rfl rfl rfl ?_
      refine At.move rfl rfl ?_
      refine At.yes rfl rfl rfl rfl ?_
      refine At.eqI rfl rfl rfl ?_
      refine At.pickF rfl rfl rfl ?_
      refine At.move rfl rfl ?_
      refine At.cases (decide ((c.toNat : Int) = 36)) (fun hg2 => ?_) (fun hg2 => ?_)
      · skip
        refine At.set (d := 39) (u := .bool true) rfl (congrArg Value.bool hg2) ?_
        have hg2' := of_decide_eq_true hg2
        refine At.no rfl rfl rfl rfl rfl rfl rfl ?_
        refine At.no rfl rfl rfl rfl rfl rfl rfl ?_
        refine At.pickT rfl rfl rfl ?_
        refine At.move rfl rfl ?_
        refine At.no rfl rfl rfl rfl rfl rfl rfl ?_
        refine At.no rfl rfl rfl rfl rfl rfl rfl ?_
        refine At.pickT rfl rfl rfl ?_
        refine At.move rfl rfl ?_
        refine At.no rfl rfl rfl rfl rfl rfl rfl ?_
        refine At.no rfl rfl rfl rfl rfl rfl rfl ?_
        refine At.pickT rfl rfl rfl ?_
        refine At.move rfl rfl ?_
        refine At.no rfl rfl rfl rfl rfl rfl rfl ?_
        refine At.no rfl rfl rfl rfl rfl rfl rfl ?_
        refine At.pickT rfl rfl rfl ?_
        refine At.move rfl rfl ?_
        refine At.no rfl rfl rfl rfl rfl rfl rfl ?_
        refine At.no rfl rfl rfl rfl rfl rfl rfl ?_
        refine At.pickT rfl rfl rfl ?_
        refine At.move rfl rfl ?_
        refine At.no rfl rfl rfl rfl rfl rfl rfl ?_
        refine At.no rfl rfl rfl rfl rfl rfl rfl ?_
        refine At.pickT rfl rfl rfl ?_
        refine At.move rfl rfl ?_
        refine At.no rfl rfl rfl rfl rfl rfl rfl ?_
        refine At.no rfl rfl rfl rfl rfl rfl rfl ?_
        refine At.pickT rfl rfl rfl ?_
        refine At.move rfl rfl ?_
        refine At.no rfl rfl rfl rfl rfl rfl rfl ?_
        refine At.no rfl rfl rfl rfl rfl rfl rfl ?_
        refine At.pickT rfl rfl rfl ?_
        refine At.move rfl rfl ?_
        refine At.no rfl rfl rfl rfl rfl rfl rfl ?_
        refine At.no rfl rfl rfl rfl rfl rfl rfl ?_
        refine At.pickT rfl rfl rfl ?_
        refine At.move rfl rfl ?_
        refine At.no rfl rfl rfl rfl rfl rfl rfl ?_
        refine At.no rfl rfl rfl rfl rfl rfl rfl ?_
        refine At.pickT rfl rfl rfl ?_
        refine At.move rfl rfl ?_
        refine At.no rfl rfl rfl rfl rfl rfl rfl ?_
        refine At.no rfl rfl rfl rfl rfl rfl rfl ?_
        refine At.pickT rfl rfl rfl ?_
        refine At.move rfl rfl ?_
        refine At.no rfl rfl rfl rfl rfl rfl rfl ?_
        refine At.no rfl rfl rfl rfl rfl rfl rfl ?_
        refine At.pickT rfl rfl rfl ?_
        refine At.move rfl rfl ?_
        refine At.no rfl rfl rfl rfl rfl rfl rfl ?_
        refine At.no rfl rfl rfl rfl rfl rfl rfl ?_
        refine At.pickT rfl rfl rfl ?_
        refine At.move rfl rfl ?_
        refine At.no rfl rfl rfl rfl rfl rfl rfl ?_
        refine At.no rfl rfl rfl rfl rfl rfl rfl ?_
        refine At.pickT rfl rfl rfl ?_
        refine At.move rfl rfl ?_
        refine At.no rfl rfl rfl rfl rfl rfl rfl ?_
        refine At.no rfl rfl rfl rfl rfl rfl rfl ?_
        refine At.pickT rfl rfl rfl ?_
        refine At.move rfl rfl ?_
        refine At.no rfl rfl rfl rfl rfl rfl rfl ?_
        refine At.no rfl rfl rfl rfl rfl rfl rfl ?_
        refine At.pickT rfl rfl rfl ?_
        refine At.move rfl rfl ?_
        refine At.no rfl rfl rfl rfl rfl rfl rfl ?_
        refine At.no rfl rfl rfl rfl rfl rfl rfl ?_
        refine At.pickT rfl rfl rfl ?_
        refine At.move rfl rfl ?_
        refine At.no rfl rfl rfl rfl rfl rfl rfl ?_
        refine At.no rfl rfl rfl rfl rfl rfl rfl ?_
        refine At.pickT rfl rfl rfl ?_
        refine At.move rfl rfl ?_
        refine At.no rfl rfl rfl rfl rfl rfl rfl ?_
        refine At.no rfl rfl rfl rfl rfl rfl rfl ?_
        refine At.no rfl rfl rfl rfl rfl rfl rfl ?_
        refine At.noU rfl rfl rfl rfl rfl rfl ?_
        refine At.noU rfl rfl rfl rfl rfl rfl ?_
        refine At.no rfl rfl rfl rfl rfl rfl rfl ?_
        refine At.pickT rfl rfl rfl ?_
        refine At.move rfl rfl ?_
        refine At.no rfl rfl rfl rfl rfl rfl rfl ?_
        refine At.no rfl rfl rfl rfl rfl rfl rfl ?_
        refine At.pickT rfl rfl rfl ?_
        refine At.assign rfl rfl ?_
        exact At.joined (Sub.cons rfl (Sub.cons rfl (Sub.cons rfl (Sub.cons rfl (Sub.cons rfl (Sub.cons (by show some (Value.bool true) = some (Value.bool (((((((((((((((((((((decide (128 ≤ (c.toNat : Int)) || decide ((c.toNat : Int) = 36)) || decide ((c.toNat : Int) = 34)) || decide ((c.toNat : Int) = 37)) || decide ((c.toNat : Int) = 38)) || decide ((c.toNat : Int) = 39)) || decide ((c.toNat : Int) = 46)) || decide ((c.toNat : Int) = 62)) || decide ((c.toNat : Int) = 63)) || decide ((c.toNat : Int) = 64)) || decide ((c.toNat : Int) = 91)) || decide ((c.toNat : Int) = 92)) || decide ((c.toNat : Int) = 93)) || decide ((c.toNat : Int) = 94)) || decide ((c.toNat : Int) = 96)) || decide ((c.toNat : Int) = 124)) || decide ((c.toNat : Int) = 126)) || decide ((c.toNat : Int) < 9)) || decide ((c.toNat : Int) = 11)) || decide ((c.toNat : Int) = 12)) || (decide (13 < (c.toNat : Int)) && decide ((c.toNat : Int) < 32))) || decide ((c.toNat : Int) = 127))); rw [hg1, hg2]; rfl) Sub.nil)))))) rfl
      · skip
        refine At.set (d := 39) (u := .bool false) rfl (congrArg Value.bool hg2) ?_
        have hg2' := of_decide_eq_false hg2
        refine At.yes rfl rfl rfl rfl ?_
        refine At.move rfl rfl ?_
        refine At.yes rfl rfl rfl rfl ?_
        refine At.eqI rfl rfl rfl ?_
        refine At.pickF rfl rfl rfl ?_
        refine At.move rfl rfl ?_
        refine At.cases (decide ((c.toNat : Int) = 34)) (fun hg3 => ?_) (fun hg3 => ?_)
        · skip
          refine At.set (d := 43) (u := .bool true) rfl (congrArg Value.bool hg3) ?_
          have hg3' := of_decide_eq_true hg3
          refine At.no rfl rfl rfl rfl rfl rfl rfl ?_
          refine At.no rfl rfl rfl rfl rfl rfl rfl ?_
          refine At.pickT rfl rfl rfl ?_
          refine At.move rfl rfl ?_
          refine At.no rfl rfl rfl rfl rfl rfl rfl ?_
          refine At.no rfl rfl rfl rfl rfl rfl rfl ?_
          refine At.pickT rfl rfl rfl ?_
          refine At.move rfl rfl ?_
          refine At.no rfl rfl rfl rfl rfl rfl rfl ?_
          refine At.no rfl rfl rfl rfl rfl rfl rfl ?_
          refine At.pickT rfl rfl rfl ?_
          refine At.move rfl rfl ?_
          refine At.no rfl rfl rfl rfl rfl rfl rfl ?_
          refine At.no rfl rfl rfl rfl rfl rfl rfl ?_
          refine At.pickT rfl rfl rfl ?_
          refine At.move rfl rfl ?_
          refine At.no rfl rfl rfl rfl rfl rfl rfl ?_
          refine At.no rfl rfl rfl rfl rfl rfl rfl ?_
          refine At.pickT rfl rfl rfl ?_
          refine At.move rfl rfl ?_
          refine At.no rfl rfl rfl rfl rfl rfl rfl ?_
          refine At.no rfl rfl rfl rfl rfl rfl rfl ?_
          refine At.pickT rfl rfl rfl ?_
          refine At.move rfl rfl ?_
          refine At.no rfl rfl rfl rfl rfl rfl rfl ?_
          refine At.no rfl rfl rfl rfl rfl rfl rfl ?_
          refine At.pickT rfl rfl rfl ?_
          refine At.move rfl rfl ?_
          refine At.no rfl rfl rfl rfl rfl rfl rfl ?_
          refine At.no rfl rfl rfl rfl rfl rfl rfl ?_
          refine At.pickT rfl rfl rfl ?_
          refine At.move rfl rfl ?_
          refine At.no rfl rfl rfl rfl rfl rfl rfl ?_
          refine At.no rfl rfl rfl rfl rfl rfl rfl ?_
          refine At.pickT rfl rfl rfl ?_
          refine At.move rfl rfl ?_
          refine At.no rfl rfl rfl rfl rfl rfl rfl ?_
          refine At.no rfl rfl rfl rfl rfl rfl rfl ?_
          refine At.pickT rfl rfl rfl ?_
          refine At.move rfl rfl ?_
          refine At.no rfl rfl rfl rfl rfl rfl rfl ?_
          refine At.no rfl rfl rfl rfl rfl rfl rfl ?_
          refine At.pickT rfl rfl rfl ?_
          refine At.move rfl rfl ?_
          refine At.no rfl rfl rfl rfl rfl rfl rfl ?_
          refine At.no rfl rfl rfl rfl rfl rfl rfl ?_
          refine At.pickT rfl rfl rfl ?_
          refine At.move rfl rfl ?_
          refine At.no rfl rfl rfl rfl rfl rfl rfl ?_
          refine At.no rfl rfl rfl rfl rfl rfl rfl ?_
          refine At.pickT rfl rfl rfl ?_
          refine At.move rfl rfl ?_
          refine At.no rfl rfl rfl rfl rfl rfl rfl ?_
          refine At.no rfl rfl rfl rfl rfl rfl rfl ?_
          refine At.pickT rfl rfl rfl ?_
          refine At.move rfl rfl ?_
          refine At.no rfl rfl rfl rfl rfl rfl rfl ?_
          refine At.no rfl rfl rfl rfl rfl rfl rfl ?_
          refine At.pickT rfl rfl rfl ?_
          refine At.move rfl rfl ?_
          refine At.no rfl rfl rfl rfl rfl rfl rfl ?_
          refine At.no rfl rfl rfl rfl rfl rfl rfl ?_
          refine At.pickT rfl rfl rfl ?_
          refine At.move rfl rfl ?_
          refine At.no rfl rfl rfl rfl rfl rfl rfl ?_
          refine At.no rfl rfl rfl rfl rfl rfl rfl ?_
          refine At.pickT rfl rfl rfl ?_
          refine At.move rfl rfl ?_
          refine At.no rfl rfl rfl rfl rfl rfl rfl ?_
          refine At.no rfl rfl rfl rfl rfl rfl rfl ?_
          refine At.no rfl rfl rfl rfl rfl rfl rfl ?_
          refine At.noU rfl rfl rfl rfl rfl rfl ?_
          refine At.noU rfl rfl rfl rfl rfl rfl ?_
          refine At.no rfl rfl rfl rfl rfl rfl rfl ?_
          refine At.pickT rfl rfl rfl ?_
          refine At.move rfl rfl ?_
          refine At.no rfl rfl rfl rfl rfl rfl rfl ?_
          refine At.no rfl rfl rfl rfl rfl rfl rfl ?_
          refine At.pickT rfl rfl rfl ?_
          refine At.assign rfl rfl ?_
          exact At.joined (Sub.cons rfl (Sub.cons rfl (Sub.cons rfl (Sub.cons rfl (Sub.cons rfl (Sub.cons (by show some (Value.bool true) = some (Value.bool (((((((((((((((((((((decide (128 ≤ (c.toNat : Int)) || decide ((c.toNat : Int) = 36)) || decide ((c.toNat : Int) = 34)) || decide ((c.toNat : Int) = 37)) || decide ((c.toNat : Int) = 38)) || decide ((c.toNat : Int) = 39)) || decide ((c.toNat : Int) = 46)) || decide ((c.toNat : Int) = 62)) || decide ((c.toNat : Int) = 63)) || decide ((c.toNat : Int) = 64)) || decide ((c.toNat : Int) = 91)) || decide ((c.toNat : Int) = 92)) || decide ((c.toNat : Int) = 93)) || decide ((c.toNat : Int) = 94)) || decide ((c.toNat : Int) = 96)) || decide ((c.toNat : Int) = 124)) || decide ((c.toNat : Int) = 126)) || decide ((c.toNat : Int) < 9)) || decide ((c.toNat : Int) = 11)) || decide ((c.toNat : Int) = 12)) || (decide (13 < (c.toNat : Int)) && decide ((c.toNat : Int) < 32))) || decide ((c.toNat : Int) = 127))); rw [hg1, hg2, hg3]; rfl) Sub.nil)))))) rfl
        · skip
          refine At.set (d := 43) (u := .bool false) rfl (congrArg Value.bool hg3) ?_
          have hg3' := of_decide_eq_false hg3
          refine At.yes rfl rfl rfl rfl ?_
          refine At.move rfl rfl ?_
          refine At.yes rfl rfl rfl rfl ?_
          refine At.eqI rfl rfl rfl ?_
          refine At.pickF rfl rfl rfl ?_
          refine At.move rfl rfl ?_
          refine At.cases (decide ((c.toNat : Int) = 37)) (fun hg4 => ?_) (fun hg4 => ?_)
          · skip
            refine At.set (d := 47) (u := .bool true) rfl (congrArg Value.bool hg4) ?_
            have hg4' := of_decide_eq_true hg4
            refine At.no rfl rfl rfl rfl rfl rfl rfl ?_
            refine At.no rfl rfl rfl rfl rfl rfl rfl ?_
            refine At.pickT rfl rfl rfl ?_
            refine At.move rfl rfl ?_
            refine At.no rfl rfl rfl rfl rfl rfl rfl ?_
            refine At.no rfl rfl rfl rfl rfl rfl rfl ?_
            refine At.pickT rfl rfl rfl ?_
            refine At.move rfl rfl ?_
            refine At.no rfl rfl rfl rfl rfl rfl rfl ?_
            refine At.no rfl rfl rfl rfl rfl rfl rfl ?_
            refine At.pickT rfl rfl rfl ?_
            refine At.move rfl rfl ?_
            refine At.no rfl rfl rfl rfl rfl rfl rfl ?_
            refine At.no rfl rfl rfl rfl rfl rfl rfl ?_
            refine At.pickT rfl rfl rfl ?_
            refine At.move rfl rfl ?_
            refine At.no rfl rfl rfl rfl rfl rfl rfl ?_
            refine At.no rfl rfl rfl rfl rfl rfl rfl ?_
            refine At.pickT rfl rfl rfl ?_
            refine At.move rfl rfl ?_
            refine At.no rfl rfl rfl rfl rfl rfl rfl ?_
            refine At.no rfl rfl rfl rfl rfl rfl rfl ?_
            refine At.pickT rfl rfl rfl ?_
            refine At.move rfl rfl ?_
            refine At.no rfl rfl rfl rfl rfl rfl rfl ?_
            refine At.no rfl rfl rfl rfl rfl rfl rfl ?_
            refine At.pickT rfl rfl rfl ?_
            refine At.move rfl rfl ?_
            refine At.no rfl rfl rfl rfl rfl rfl rfl ?_
            refine At.no rfl rfl rfl rfl rfl rfl rfl ?_
            refine At.pickT rfl rfl rfl ?_
            refine At.move rfl rfl ?_
            refine At.no rfl rfl rfl rfl rfl rfl rfl ?_
            refine At.no rfl rfl rfl rfl rfl rfl rfl ?_
            refine At.pickT rfl rfl rfl ?_
            refine At.move rfl rfl ?_
            refine At.no rfl rfl rfl rfl rfl rfl rfl ?_
            refine At.no rfl rfl rfl rfl rfl rfl rfl ?_
            refine At.pickT rfl rfl rfl ?_
            refine At.move rfl rfl ?_
            refine At.no rfl rfl rfl rfl rfl rfl rfl ?_
            refine At.no rfl rfl rfl rfl rfl rfl rfl ?_
            refine At.pickT rfl rfl rfl ?_
            refine At.move rfl rfl ?_
            refine At.no rfl rfl rfl rfl rfl rfl rfl ?_
            refine At.no rfl rfl rfl rfl rfl rfl rfl ?_
            refine At.pickT rfl rfl rfl ?_
            refine At.move rfl rfl ?_
            refine At.no rfl rfl rfl rfl rfl rfl rfl ?_
            refine At.no rfl rfl rfl rfl rfl rfl rfl ?_
            refine At.pickT rfl rfl rfl ?_
            refine At.move rfl rfl ?_
            refine At.no rfl rfl rfl rfl rfl rfl rfl ?_
            refine At.no rfl rfl rfl rfl rfl rfl rfl ?_
            refine At.pickT rfl rfl rfl ?_
            refine At.move rfl rfl ?_
            refine At.no rfl rfl rfl rfl rfl rfl rfl ?_
            refine At.no rfl rfl rfl rfl rfl rfl rfl ?_
            refine At.pickT rfl rfl rfl ?_
            refine At.move rfl rfl ?_
            refine At.no rfl rfl rfl rfl rfl rfl rfl ?_
            refine At.no rfl rfl rfl rfl rfl rfl rfl ?_
            refine At.pickT rfl rfl rfl ?_
            refine At.move rfl rfl ?_
            refine At.no rfl rfl rfl rfl rfl rfl rfl ?_
            refine At.no rfl rfl rfl rfl rfl rfl rfl ?_
            refine At.no rfl rfl rfl rfl rfl rfl rfl ?_
            refine At.noU rfl rfl rfl rfl rfl rfl ?_
            refine At.noU rfl rfl rfl rfl rfl rfl ?_
            refine At.no rfl rfl rfl rfl rfl rfl rfl ?_
            refine At.pickT rfl rfl rfl ?_
            refine At.move rfl rfl ?_
            refine At.no rfl rfl rfl rfl rfl rfl rfl ?_
            refine At.no rfl rfl rfl rfl rfl rfl rfl ?_
            refine At.pickT rfl rfl rfl ?_
            refine At.assign rfl rfl ?_
            exact At.joined (Sub.cons rfl (Sub.cons rfl (Sub.cons rfl (Sub.cons rfl (Sub.cons rfl (Sub.cons (by show some (Value.bool true) = some (Value.bool (((((((((((((((((((((decide (128 ≤ (c.toNat : Int)) || decide ((c.toNat : Int) = 36)) || decide ((c.toNat : Int) = 34)) || decide ((c.toNat : Int) = 37)) || decide ((c.toNat : Int) = 38)) || decide ((c.toNat : Int) = 39)) || decide ((c.toNat : Int) = 46)) || decide ((c.toNat : Int) = 62)) || decide ((c.toNat : Int) = 63)) || decide ((c.toNat : Int) = 64)) || decide ((c.toNat : Int) = 91)) || decide ((c.toNat : Int) = 92)) || decide ((c.toNat : Int) = 93)) || decide ((c.toNat : Int) = 94)) || decide ((c.toNat : Int) = 96)) || decide ((c.toNat : Int) = 124)) || decide ((c.toNat : Int) = 126)) || decide ((c.toNat : Int) < 9)) || decide ((c.toNat : Int) = 11)) || decide ((c.toNat : Int) = 12)) || (decide (13 < (c.toNat : Int)) && decide ((c.toNat : Int) < 32))) || decide ((c.toNat : Int) = 127))); rw [hg1, hg2, hg3, hg4]; rfl) Sub.nil)))))) rfl
          · skip
            refine At.set (d := 47) (u := .bool false) rfl (congrArg Value.bool hg4) ?_
            have hg4' := of_decide_eq_false hg4
            refine At.yes rfl rfl rfl rfl ?_
            refine At.move rfl rfl ?_
            refine At.yes rfl rfl rfl rfl ?_
            refine At.eqI rfl rfl rfl ?_
            refine At.pickF rfl rfl rfl ?_
            refine At.move rfl rfl ?_
            refine At.cases (decide ((c.toNat : Int) = 38)) (fun hg5 => ?_) (fun hg5 => ?_)
            · skip
              refine At.set (d := 51) (u := .bool true) rfl (congrArg Value.bool hg5) ?_
              have hg5' := of_decide_eq_true hg5
              refine At.no rfl rfl rfl rfl rfl rfl rfl ?_
              refine At.no rfl rfl rfl rfl rfl rfl rfl ?_
              refine At.pickT rfl rfl rfl ?_
              refine At.move rfl rfl ?_
              refine At.no rfl rfl rfl rfl rfl rfl rfl ?_
              refine At.no rfl rfl rfl rfl rfl rfl rfl ?_
              refine At.pickT rfl rfl rfl ?_
              refine At.move rfl rfl ?_
              refine At.no rfl rfl rfl rfl rfl rfl rfl ?_
              refine At.no rfl rfl rfl rfl rfl rfl rfl ?_
              refine At.pickT rfl rfl rfl ?_
              refine At.move rfl rfl ?_
              refine At.no rfl rfl rfl rfl rfl rfl rfl ?_
              refine At.no rfl rfl rfl rfl rfl rfl rfl ?_
              refine At.pickT rfl rfl rfl ?_
              refine At.move rfl rfl ?_
              refine At.no rfl rfl rfl rfl rfl rfl rfl ?_
              refine At.no rfl rfl rfl rfl rfl rfl rfl ?_
              refine At.pickT rfl rfl rfl ?_
              refine At.move rfl rfl ?_
              refine At.no rfl rfl rfl rfl rfl rfl rfl ?_
              refine At.no rfl rfl rfl rfl rfl rfl rfl ?_
              refine At.pickT rfl rfl rfl ?_
              refine At.move rfl rfl ?_
              refine At.no rfl rfl rfl rfl rfl rfl rfl ?_
              refine At.no rfl rfl rfl rfl rfl rfl rfl ?_
              refine At.pickT rfl rfl rfl ?_
              refine At.move rfl rfl ?_
              refine At.no rfl rfl rfl rfl rfl rfl rfl ?_
              refine At.no rfl rfl rfl rfl rfl rfl rfl ?_
              refine At.pickT rfl rfl rfl ?_
              refine At.move rfl rfl ?_
              refine At.no rfl rfl rfl rfl rfl rfl rfl ?_
              refine At.no rfl rfl rfl rfl rfl rfl rfl ?_
              refine At.pickT rfl rfl rfl ?_
              refine At.move rfl rfl ?_
              refine At.no rfl rfl rfl rfl rfl rfl rfl ?_
              refine At.no rfl rfl rfl rfl rfl rfl rfl ?_
              refine At.pickT rfl rfl rfl ?_
              refine At.move rfl rfl ?_
              refine At.no rfl rfl rfl rfl rfl rfl rfl ?_
              refine At.no rfl rfl rfl rfl rfl rfl rfl ?_
              refine At.pickT rfl rfl rfl ?_
              refine At.move rfl rfl ?_
              refine At.no rfl rfl rfl rfl rfl rfl rfl ?_
              refine At.no rfl rfl rfl rfl rfl rfl rfl ?_
              refine At.pickT rfl rfl rfl ?_
              refine At.move rfl rfl ?_
              refine At.no rfl rfl rfl rfl rfl rfl rfl ?_
              refine At.no rfl rfl rfl rfl rfl rfl rfl ?_
              refine At.pickT rfl rfl rfl ?_
              refine At.move rfl rfl ?_
              refine At.no rfl rfl rfl rfl rfl rfl rfl ?_
              refine At.no rfl rfl rfl rfl rfl rfl rfl ?_
              refine At.pickT rfl rfl rfl ?_
              refine At.move rfl rfl ?_
              refine At.no rfl rfl rfl rfl rfl rfl rfl ?_
              refine At.no rfl rfl rfl rfl rfl rfl rfl ?_
              refine At.pickT rfl rfl rfl ?_
              refine At.move rfl rfl ?_
              refine At.no rfl rfl rfl rfl rfl rfl rfl ?_
              refine At.no rfl rfl rfl rfl rfl rfl rfl ?_
              refine At.no rfl rfl rfl rfl rfl rfl rfl ?_
              refine At.noU rfl rfl rfl rfl rfl rfl ?_
              refine At.noU rfl rfl rfl rfl rfl rfl ?_
              refine At.no rfl rfl rfl rfl rfl rfl rfl ?_
              refine At.pickT rfl rfl rfl ?_
              refine At.move rfl rfl ?_
              refine At.no rfl rfl rfl rfl rfl rfl rfl ?_
              refine At.no rfl rfl rfl rfl rfl rfl rfl ?_
              refine At.pickT rfl rfl rfl ?_
              refine At.assign rfl rfl ?_
              exact At.joined (Sub.cons rfl (Sub.cons rfl (Sub.cons rfl (Sub.cons rfl (Sub.cons rfl (Sub.cons (by show some (Value.bool true) = some (Value.bool (((((((((((((((((((((decide (128 ≤ (c.toNat : Int)) || decide ((c.toNat : Int) = 36)) || decide ((c.toNat : Int) = 34)) || decide ((c.toNat : Int) = 37)) || decide ((c.toNat : Int) = 38)) || decide ((c.toNat : Int) = 39)) || decide ((c.toNat : Int) = 46)) || decide ((c.toNat : Int) = 62)) || decide ((c.toNat : Int) = 63)) || decide ((c.toNat : Int) = 64)) || decide ((c.toNat : Int) = 91)) || decide ((c.toNat : Int) = 92)) || decide ((c.toNat : Int) = 93)) || decide ((c.toNat : Int) = 94)) || decide ((c.toNat : Int) = 96)) || decide ((c.toNat : Int) = 124)) || decide ((c.toNat : Int) = 126)) || decide ((c.toNat : Int) < 9)) || decide ((c.toNat : Int) = 11)) || decide ((c.toNat : Int) = 12)) || (decide (13 < (c.toNat : Int)) && decide ((c.toNat : Int) < 32))) || decide ((c.toNat : Int) = 127))); rw [hg1, hg2, hg3, hg4, hg5]; rfl) Sub.nil)))))) rfl
            · skip
              refine At.set (d := 51) (u := .bool false) rfl (congrArg Value.bool hg5) ?_
              have hg5' := of_decide_eq_false hg5
              refine At.yes rfl rfl rfl rfl ?_
              refine At.move rfl rfl ?_
              refine At.yes rfl rfl rfl rfl ?_
              refine At.eqI rfl rfl rfl ?_
              refine At.pickF rfl rfl rfl ?_
              refine At.move rfl rfl ?_
              refine At.cases (decide ((c.toNat : Int) = 39)) (fun hg6 => ?_) (fun hg6 => ?_)
              · skip
                refine At.set (d := 55) (u := .bool true) rfl (congrArg Value.bool hg6) ?_
                have hg6' := of_decide_eq_true hg6
                refine At.no rfl rfl rfl rfl rfl rfl rfl ?_
                refine At.no rfl rfl rfl rfl rfl rfl rfl ?_
                refine At.pickT rfl rfl rfl ?_
                refine At.move rfl rfl ?_
                refine At.no rfl rfl rfl rfl rfl rfl rfl ?_
                refine At.no rfl rfl rfl rfl rfl rfl rfl ?_
                refine At.pickT rfl rfl rfl ?_
                refine At.move rfl rfl ?_
                refine At.no rfl rfl rfl rfl rfl rfl rfl ?_
                refine At.no rfl rfl rfl rfl rfl rfl rfl ?_
                refine At.pickT rfl rfl rfl ?_
                refine At.move rfl rfl ?_
                refine At.no rfl rfl rfl rfl rfl rfl rfl ?_
                refine At.no rfl rfl rfl rfl rfl rfl rfl ?_
                refine At.pickT rfl rfl rfl ?_
                refine At.move rfl rfl ?_
                refine At.no rfl rfl rfl rfl rfl rfl rfl ?_
                refine At.no rfl rfl rfl rfl rfl rfl rfl ?_
                refine At.pickT rfl rfl rfl ?_
                refine At.move rfl rfl ?_
                refine At.no rfl rfl rfl rfl rfl rfl rfl ?_
                refine At.no rfl rfl rfl rfl rfl rfl rfl ?_
                refine At.pickT rfl rfl rfl ?_
                refine At.move rfl rfl ?_
                refine At.no rfl rfl rfl rfl rfl rfl rfl ?_
                refine At.no rfl rfl rfl rfl rfl rfl rfl ?_
                refine At.pickT rfl rfl rfl ?_
                refine At.move rfl rfl ?_
                refine At.no rfl rfl rfl rfl rfl rfl rfl ?_
                refine At.no rfl rfl rfl rfl rfl rfl rfl ?_
                refine At.pickT rfl rfl rfl ?_
                refine At.move rfl rfl ?_
                refine At.no rfl rfl rfl rfl rfl rfl rfl ?_
                refine At.no rfl rfl rfl rfl rfl rfl rfl ?_
                refine At.pickT rfl rfl rfl ?_
                refine At.move rfl rfl ?_
                refine At.no rfl rfl rfl rfl rfl rfl rfl ?_
                refine At.no rfl rfl rfl rfl rfl rfl rfl ?_
                refine At.pickT rfl rfl rfl ?_
                refine At.move rfl rfl ?_
                refine At.no rfl rfl rfl rfl rfl rfl rfl ?_
                refine At.no rfl rfl rfl rfl rfl rfl rfl ?_
                refine At.pickT rfl rfl rfl ?_
                refine At.move rfl rfl ?_
                refine At.no rfl rfl rfl rfl rfl rfl rfl ?_
                refine At.no rfl rfl rfl rfl rfl rfl rfl ?_
                refine At.pickT rfl rfl rfl ?_
                refine At.move rfl rfl ?_
                refine At.no rfl rfl rfl rfl rfl rfl rfl ?_
                refine At.no rfl rfl rfl rfl rfl rfl rfl ?_
                refine At.pickT rfl rfl rfl ?_
                refine At.move rfl rfl ?_
                refine At.no rfl rfl rfl rfl rfl rfl rfl ?_
                refine At.no rfl rfl rfl rfl rfl rfl rfl ?_
                refine At.pickT rfl rfl rfl ?_
                refine At.move rfl rfl ?_
                refine At.no rfl rfl rfl rfl rfl rfl rfl ?_
                refine At.no rfl rfl rfl rfl rfl rfl rfl ?_
                refine At.no rfl rfl rfl rfl rfl rfl rfl ?_
                refine At.noU rfl rfl rfl rfl rfl rfl ?_
                refine At.noU rfl rfl rfl rfl rfl rfl ?_
                refine At.no rfl rfl rfl rfl rfl rfl rfl ?_
                refine At.pickT rfl rfl rfl ?_
                refine At.move rfl rfl ?_
                refine At.no rfl rfl rfl rfl rfl rfl rfl ?_
                refine At.no rfl rfl rfl rfl rfl rfl rfl ?_
                refine At.pickT rfl rfl rfl ?_
                refine At.assign rfl rfl ?_
                exact At.joined (Sub.cons rfl (Sub.cons rfl (Sub.cons rfl (Sub.cons rfl (Sub.cons rfl (Sub.cons (by show some (Value.bool true) = some (Value.bool (((((((((((((((((((((decide (128 ≤ (c.toNat : Int)) || decide ((c.toNat : Int) = 36)) || decide ((c.toNat : Int) = 34)) || decide ((c.toNat : Int) = 37)) || decide ((c.toNat : Int) = 38)) || decide ((c.toNat : Int) = 39)) || decide ((c.toNat : Int) = 46)) || decide ((c.toNat : Int) = 62)) || decide ((c.toNat : Int) = 63)) || decide ((c.toNat : Int) = 64)) || decide ((c.toNat : Int) = 91)) || decide ((c.toNat : Int) = 92)) || decide ((c.toNat : Int) = 93)) || decide ((c.toNat : Int) = 94)) || decide ((c.toNat : Int) = 96)) || decide ((c.toNat : Int) = 124)) || decide ((c.toNat : Int) = 126)) || decide ((c.toNat : Int) < 9)) || decide ((c.toNat : Int) = 11)) || decide ((c.toNat : Int) = 12)) || (decide (13 < (c.toNat : Int)) && decide ((c.toNat : Int) < 32))) || decide ((c.toNat : Int) = 127))); rw [hg1, hg2, hg3, hg4, hg5, hg6]; rfl) Sub.nil)))))) rfl
              · skip
                refine At.set (d := 55) (u := .bool false) rfl (congrArg Value.bool hg6) ?_
                have hg6' := of_decide_eq_false hg6
                refine At.yes rfl rfl rfl rfl ?_
                refine At.move rfl rfl ?_
                refine At.yes rfl rfl rfl rfl ?_
                refine At.eqI rfl rfl rfl ?_
                refine At.pickF rfl rfl rfl ?_
                refine At.move rfl rfl ?_
                refine At.cases (decide ((c.toNat : Int) = 46)) (fun hg7 => ?_) (fun hg7 => ?_)
                · skip
                  refine At.set (d := 59) (u := .bool true) rfl (congrArg Value.bool hg7) ?_
                  have hg7' := of_decide_eq_true hg7
                  refine At.no rfl rfl rfl rfl rfl rfl rfl ?_
                  refine At.no rfl rfl rfl rfl rfl rfl rfl ?_
                  refine At.pickT rfl rfl rfl ?_
                  refine At.move rfl rfl ?_
                  refine At.no rfl rfl rfl rfl rfl rfl rfl ?_
                  refine At.no rfl rfl rfl rfl rfl rfl rfl ?_
                  refine At.pickT rfl rfl rfl ?_
                  refine At.move rfl rfl ?_
                  refine At.no rfl rfl rfl rfl rfl rfl rfl ?_
                  refine At.no rfl rfl rfl rfl rfl rfl rfl ?_
                  refine At.pickT rfl rfl rfl ?_
                  refine At.move rfl rfl ?_
                  refine At.no rfl rfl rfl rfl rfl rfl rfl ?_
                  refine At.no rfl rfl rfl rfl rfl rfl rfl ?_
                  refine At.pickT rfl rfl rfl ?_
                  refine At.move rfl rfl ?_
                  refine At.no rfl rfl rfl rfl rfl rfl rfl ?_
                  refine At.no rfl rfl rfl rfl rfl rfl rfl ?_
                  refine At.pickT rfl rfl rfl ?_
                  refine At.move rfl rfl ?_
                  refine At.no rfl rfl rfl rfl rfl rfl rfl ?_
                  refine At.no rfl rfl rfl rfl rfl rfl rfl ?_
                  refine At.pickT rfl rfl rfl ?_
                  refine At.move rfl rfl ?_
                  refine At.no rfl rfl rfl rfl rfl rfl rfl ?_
                  refine At.no rfl rfl rfl rfl rfl rfl rfl ?_
                  refine At.pickT rfl rfl rfl ?_
                  refine At.move rfl rfl ?_
                  refine At.no rfl rfl rfl rfl rfl rfl rfl ?_
                  refine At.no rfl rfl rfl rfl rfl rfl rfl ?_
                  refine At.pickT rfl rfl rfl ?_
                  refine At.move rfl rfl ?_
                  refine At.no rfl rfl rfl rfl rfl rfl rfl ?_
                  refine At.no rfl rfl rfl rfl rfl rfl rfl ?_
                  refine At.pickT rfl rfl rfl ?_
                  refine At.move rfl rfl ?_
                  refine At.no rfl rfl rfl rfl rfl rfl rfl ?_
                  refine At.no rfl rfl rfl rfl rfl rfl rfl ?_
                  refine At.pickT rfl rfl rfl ?_
                  refine At.move rfl rfl ?_
                  refine At.no rfl rfl rfl rfl rfl rfl rfl ?_
                  refine At.no rfl rfl rfl rfl rfl rfl rfl ?_
                  refine At.pickT rfl rfl rfl ?_
                  refine At.move rfl rfl ?_
                  refine At.no rfl rfl rfl rfl rfl rfl rfl ?_
                  refine At.no rfl rfl rfl rfl rfl rfl rfl ?_
                  refine At.pickT rfl rfl rfl ?_
                  refine At.move rfl rfl ?_
                  refine At.no rfl rfl rfl rfl rfl rfl rfl ?_
                  refine At.no rfl rfl rfl rfl rfl rfl rfl ?_
                  refine At.pickT rfl rfl rfl ?_
                  refine At.move rfl rfl ?_
                  refine At.no rfl rfl rfl rfl rfl rfl rfl ?_
                  refine At.no rfl rfl rfl rfl rfl rfl rfl ?_
                  refine At.no rfl rfl rfl rfl rfl rfl rfl ?_
                  refine At.noU rfl rfl rfl rfl rfl rfl ?_
                  refine At.noU rfl rfl rfl rfl rfl rfl ?_
                  refine At.no rfl rfl rfl rfl rfl rfl rfl ?_
                  refine At.pickT rfl rfl rfl ?_
                  refine At.move rfl rfl ?_
                  refine At.no rfl rfl rfl rfl rfl rfl rfl ?_
                  refine At.no rfl rfl rfl rfl rfl rfl rfl ?_
                  refine At.pickT rfl rfl rfl ?_
                  refine At.assign rfl rfl ?_
                  exact At.joined (Sub.cons rfl (Sub.cons rfl (Sub.cons rfl (Sub.cons rfl (Sub.cons rfl (Sub.cons (by show some (Value.bool true) = some (Value.bool (((((((((((((((((((((decide (128 ≤ (c.toNat : Int)) || decide ((c.toNat : Int) = 36)) || decide ((c.toNat : Int) = 34)) || decide ((c.toNat : Int) = 37)) || decide ((c.toNat : Int) = 38)) || decide ((c.toNat : Int) = 39)) || decide ((c.toNat : Int) = 46)) || decide ((c.toNat : Int) = 62)) || decide ((c.toNat : Int) = 63)) || decide ((c.toNat : Int) = 64)) || decide ((c.toNat : Int) = 91)) || decide ((c.toNat : Int) = 92)) || decide ((c.toNat : Int) = 93)) || decide ((c.toNat : Int) = 94)) || decide ((c.toNat : Int) = 96)) || decide ((c.toNat : Int) = 124)) || decide ((c.toNat : Int) = 126)) || decide ((c.toNat : Int) < 9)) || decide ((c.toNat : Int) = 11)) || decide ((c.toNat : Int) = 12)) || (decide (13 < (c.toNat : Int)) && decide ((c.toNat : Int) < 32))) || decide ((c.toNat : Int) = 127))); rw [hg1, hg2, hg3, hg4, hg5, hg6, hg7]; rfl) Sub.nil)))))) rfl
                · skip
                  refine At.set (d := 59) (u := .bool false) rfl (congrArg Value.bool hg7) ?_
                  have hg7' := of_decide_eq_false hg7
                  refine At.yes rfl rfl rfl rfl ?_
                  refine At.move rfl rfl ?_
                  refine At.yes rfl rfl rfl rfl ?_
                  refine At.eqI rfl rfl rfl ?_
                  refine At.pickF rfl rfl rfl ?_
                  refine At.move rfl rfl ?_
                  refine At.cases (decide ((c.toNat : Int) = 62)) (fun hg8 => ?_) (fun hg8 => ?_)
                  · skip
                    refine At.set (d := 63) (u := .bool true) rfl (congrArg Value.bool hg8) ?_
                    have hg8' := of_decide_eq_true hg8
                    refine At.no rfl rfl rfl rfl rfl rfl rfl ?_
                    refine At.no rfl rfl rfl rfl rfl rfl rfl ?_
                    refine At.pickT rfl rfl rfl ?_
                    refine At.move rfl rfl ?_
                    refine At.no rfl rfl rfl rfl rfl rfl rfl ?_
                    refine At.no rfl rfl rfl rfl rfl rfl rfl ?_
                    refine At.pickT rfl rfl rfl ?_
                    refine At.move rfl rfl ?_
                    refine At.no rfl rfl rfl rfl rfl rfl rfl ?_
                    refine At.no rfl rfl rfl rfl rfl rfl rfl ?_
                    refine At.pickT rfl rfl rfl ?_
                    refine At.move rfl rfl ?_
                    refine At.no rfl rfl rfl rfl rfl rfl rfl ?_
                    refine At.no rfl rfl rfl rfl rfl rfl rfl ?_
                    refine At.pickT rfl rfl rfl ?_
                    refine At.move rfl rfl ?_
                    refine At.no rfl rfl rfl rfl rfl rfl rfl ?_
                    refine At.no rfl rfl rfl rfl rfl rfl rfl ?_
                    refine At.pickT rfl rfl rfl ?_
                    refine At.move rfl rfl ?_
                    refine At.no rfl rfl rfl rfl rfl rfl rfl ?_
                    refine At.no rfl rfl rfl rfl rfl rfl rfl ?_
                    refine At.pickT rfl rfl rfl ?_
                    refine At.move rfl rfl ?_
                    refine At.no rfl rfl rfl rfl rfl rfl rfl ?_
                    refine At.no rfl rfl rfl rfl rfl rfl rfl ?_
                    refine At.pickT rfl rfl rfl ?_
                    refine At.move rfl rfl ?_
                    refine At.no rfl rfl rfl rfl rfl rfl rfl ?_
                    refine At.no rfl rfl rfl rfl rfl rfl rfl ?_
                    refine At.pickT rfl rfl rfl ?_
                    refine At.move rfl rfl ?_
                    refine At.no rfl rfl rfl rfl rfl rfl rfl ?_
                    refine At.no rfl rfl rfl rfl rfl rfl rfl ?_
                    refine At.pickT rfl rfl rfl ?_
                    refine At.move rfl rfl ?_
                    refine At.no rfl rfl rfl rfl rfl rfl rfl ?_
                    refine At.no rfl rfl rfl rfl rfl rfl rfl ?_
                    refine At.pickT rfl rfl rfl ?_
                    refine At.move rfl rfl ?_
                    refine At.no rfl rfl rfl rfl rfl rfl rfl ?_
                    refine At.no rfl rfl rfl rfl rfl rfl rfl ?_
                    refine At.pickT rfl rfl rfl ?_
                    refine At.move rfl rfl ?_
                    refine At.no rfl rfl rfl rfl rfl rfl rfl ?_
                    refine At.no rfl rfl rfl rfl rfl rfl rfl ?_
                    refine At.pickT rfl rfl rfl ?_
                    refine At.move rfl rfl ?_
                    refine At.no rfl rfl rfl rfl rfl rfl rfl ?_
                    refine At.no rfl rfl rfl rfl rfl rfl rfl ?_
                    refine At.no rfl rfl rfl rfl rfl rfl rfl ?_
                    refine At.noU rfl rfl rfl rfl rfl rfl ?_
                    refine At.noU rfl rfl rfl rfl rfl rfl ?_
                    refine At.no rfl rfl rfl rfl rfl rfl rfl ?_
                    refine At.pickT rfl rfl rfl ?_
                    refine At.move rfl rfl ?_
                    refine At.no rfl rfl rfl rfl rfl rfl rfl ?_
                    refine At.no rfl rfl rfl rfl rfl rfl rfl ?_
                    refine At.pickT rfl rfl rfl ?_
                    refine At.assign rfl rfl ?_
                    exact At.joined (Sub.cons rfl (Sub.cons rfl (Sub.cons rfl (Sub.cons rfl (Sub.cons rfl (Sub.cons (by show some (Value.bool true) = some (Value.bool (((((((((((((((((((((decide (128 ≤ (c.toNat : Int)) || decide ((c.toNat : Int) = 36)) || decide ((c.toNat : Int) = 34)) || decide ((c.toNat : Int) = 37)) || decide ((c.toNat : Int) = 38)) || decide ((c.toNat : Int) = 39)) || decide ((c.toNat : Int) = 46)) || decide ((c.toNat : Int) = 62)) || decide ((c.toNat : Int) = 63)) || decide ((c.toNat : Int) = 64)) || decide ((c.toNat : Int) = 91)) || decide ((c.toNat : Int) = 92)) || decide ((c.toNat : Int) = 93)) || decide ((c.toNat : Int) = 94)) || decide ((c.toNat : Int) = 96)) || decide ((c.toNat : Int) = 124)) || decide ((c.toNat : Int) = 126)) || decide ((c.toNat : Int) < 9)) || decide ((c.toNat : Int) = 11)) || decide ((c.toNat : Int) = 12)) || (decide (13 < (c.toNat : Int)) && decide ((c.toNat : Int) < 32))) || decide ((c.toNat : Int) = 127))); rw [hg1, hg2, hg3, hg4, hg5, hg6, hg7, hg8]; rfl) Sub.nil)))))) rfl
                  · skip
                    refine At.set (d := 63) (u := .bool false) rfl (congrArg Value.bool hg8) ?_
                    have hg8' := of_decide_eq_false hg8
                    refine At.yes rfl rfl rfl rfl ?_
                    refine At.move rfl rfl ?_
                    refine At.yes rfl rfl rfl rfl ?_
                    refine At.eqI rfl rfl rfl ?_
                    refine At.pickF rfl rfl rfl ?_
                    refine At.move rfl rfl ?_
                    refine At.cases (decide ((c.toNat : Int) = 63)) (fun hg9 => ?_) (fun hg9 => ?_)
                    · skip
                      refine At.set (d := 67) (u := .bool true) rfl (congrArg Value.bool hg9) ?_
                      have hg9' := of_decide_eq_true hg9
                      refine At.no rfl rfl rfl rfl rfl rfl rfl ?_
                      refine At.no rfl rfl rfl rfl rfl rfl rfl ?_
                      refine At.pickT rfl rfl rfl ?_
                      refine At.move rfl rfl ?_
                      refine At.no rfl rfl rfl rfl rfl rfl rfl ?_
                      refine At.no rfl rfl rfl rfl rfl rfl rfl ?_
                      refine At.pickT rfl rfl rfl ?_
                      refine At.move rfl rfl ?_
                      refine At.no rfl rfl rfl rfl rfl rfl rfl ?_
                      refine At.no rfl rfl rfl rfl rfl rfl rfl ?_
                      refine At.pickT rfl rfl rfl ?_
                      refine At.move rfl rfl ?_
                      refine At.no rfl rfl rfl rfl rfl rfl rfl ?_
                      refine At.no rfl rfl rfl rfl rfl rfl rfl ?_
                      refine At.pickT rfl rfl rfl ?_
                      refine At.move rfl rfl ?_
                      refine At.no rfl rfl rfl rfl rfl rfl rfl ?_
                      refine At.no rfl rfl rfl rfl rfl rfl rfl ?_
                      refine At.pickT rfl rfl rfl ?_
                      refine At.move rfl rfl ?_
                      refine At.no rfl rfl rfl rfl rfl rfl rfl ?_
                      refine At.no rfl rfl rfl rfl rfl rfl rfl ?_
                      refine At.pickT rfl rfl rfl ?_
                      refine At.move rfl rfl ?_
                      refine At.no rfl rfl rfl rfl rfl rfl rfl ?_
                      refine At.no rfl rfl rfl rfl rfl rfl rfl ?_
                      refine At.pickT rfl rfl rfl ?_
                      refine At.move rfl rfl ?_
                      refine At.no rfl rfl rfl rfl rfl rfl rfl ?_
                      refine At.no rfl rfl rfl rfl rfl rfl rfl ?_
                      refine At.pickT rfl rfl rfl ?_
                      refine At.move rfl rfl ?_
                      refine At.no rfl rfl rfl rfl rfl rfl rfl ?_
                      refine At.no rfl rfl rfl rfl rfl rfl rfl ?_
                      refine At.pickT rfl rfl rfl ?_
                      refine At.move rfl rfl ?_
                      refine At.no rfl rfl rfl rfl rfl rfl rfl ?_
                      refine At.no rfl rfl rfl rfl rfl rfl rfl ?_
                      refine At.pickT rfl rfl rfl ?_
                      refine At.move rfl rfl ?_
                      refine At.no rfl rfl rfl rfl rfl rfl rfl ?_
                      refine At.no rfl rfl rfl rfl rfl rfl rfl ?_
                      refine At.pickT rfl rfl rfl ?_
                      refine At.move rfl rfl ?_
                      refine At.no rfl rfl rfl rfl rfl rfl rfl ?_
                      refine At.no rfl rfl rfl rfl rfl rfl rfl ?_
                      refine At.no rfl rfl rfl rfl rfl rfl rfl ?_
                      refine At.noU rfl rfl rfl rfl rfl rfl ?_
                      refine At.noU rfl rfl rfl rfl rfl rfl ?_
                      refine At.no rfl rfl rfl rfl rfl rfl rfl ?_
                      refine At.pickT rfl rfl rfl ?_
                      refine At.move rfl rfl ?_
                      refine At.no rfl rfl rfl rfl rfl rfl rfl ?_
                      refine At.no rfl rfl rfl rfl rfl rfl rfl ?_
                      refine At.pickT rfl rfl rfl ?_
                      refine At.assign rfl rfl ?_
                      exact At.joined (Sub.cons rfl (Sub.cons rfl (Sub.cons rfl (Sub.cons rfl (Sub.cons rfl (Sub.cons (by show some (Value.bool true) = some (Value.bool (((((((((((((((((((((decide (128 ≤ (c.toNat : Int)) || decide ((c.toNat : Int) = 36)) || decide ((c.toNat : Int) = 34)) || decide ((c.toNat : Int) = 37)) || decide ((c.toNat : Int) = 38)) || decide ((c.toNat : Int) = 39)) || decide ((c.toNat : Int) = 46)) || decide ((c.toNat : Int) = 62)) || decide ((c.toNat : Int) = 63)) || decide ((c.toNat : Int) = 64)) || decide ((c.toNat : Int) = 91)) || decide ((c.toNat : Int) = 92)) || decide ((c.toNat : Int) = 93)) || decide ((c.toNat : Int) = 94)) || decide ((c.toNat : Int) = 96)) || decide ((c.toNat : Int) = 124)) || decide ((c.toNat : Int) = 126)) || decide ((c.toNat : Int) < 9)) || decide ((c.toNat : Int) = 11)) || decide ((c.toNat : Int) = 12)) || (decide (13 < (c.toNat : Int)) && decide ((c.toNat : Int) < 32))) || decide ((c.toNat : Int) = 127))); rw [hg1, hg2, hg3, hg4, hg5, hg6, hg7, hg8, hg9]; rfl) Sub.nil)))))) rfl
                    · skip
                      refine At.set (d := 67) (u := .bool false) rfl (congrArg Value.bool hg9) ?_
                      have hg9' := of_decide_eq_false hg9
                      refine At.yes rfl rfl rfl rfl ?_
                      refine At.move rfl rfl ?_
                      refine At.yes rfl rfl rfl rfl ?_
                      refine At.eqI rfl rfl rfl ?_
                      refine At.pickF rfl rfl rfl ?_
                      refine At.move rfl rfl ?_
                      refine At.cases (decide ((c.toNat : Int) = 64)) (fun hg10 => ?_) (fun hg10 => ?_)
                      · skip
                        refine At.set (d := 71) (u := .bool true) rfl (congrArg Value.bool hg10) ?_
                        have hg10' := of_decide_eq_true hg10
                        refine At.no rfl rfl rfl rfl rfl rfl rfl ?_
                        refine At.no rfl rfl rfl rfl rfl rfl rfl ?_
                        refine At.pickT rfl rfl rfl ?_
                        refine At.move rfl rfl ?_
                        refine At.no rfl rfl rfl rfl rfl rfl rfl ?_
                        refine At.no rfl rfl rfl rfl rfl rfl rfl ?_
                        refine At.pickT rfl rfl rfl ?_
                        refine At.move rfl rfl ?_
                        refine At.no rfl rfl rfl rfl rfl rfl rfl ?_
                        refine At.no rfl rfl rfl rfl rfl rfl rfl ?_
                        refine At.pickT rfl rfl rfl ?_
                        refine At.move rfl rfl ?_
                        refine At.no rfl rfl rfl rfl rfl rfl rfl ?_
                        refine At.no rfl rfl rfl rfl rfl rfl rfl ?_
                        refine At.pickT rfl rfl rfl ?_
                        refine At.move rfl rfl ?_
                        refine At.no rfl rfl rfl rfl rfl rfl rfl ?_
                        refine At.no rfl rfl rfl rfl rfl rfl rfl ?_
                        refine At.pickT rfl rfl rfl ?_
                        refine At.move rfl rfl ?_
                        refine At.no rfl rfl rfl rfl rfl rfl rfl ?_
                        refine At.no rfl rfl rfl rfl rfl rfl rfl ?_
                        refine At.pickT rfl rfl rfl ?_
                        refine At.move rfl rfl ?_
                        refine At.no rfl rfl rfl rfl rfl rfl rfl ?_
                        refine At.no rfl rfl rfl rfl rfl rfl rfl ?_
                        refine At.pickT rfl rfl rfl ?_
                        refine At.move rfl rfl ?_
                        refine At.no rfl rfl rfl rfl rfl rfl rfl ?_
                        refine At.no rfl rfl rfl rfl rfl rfl rfl ?_
                        refine At.pickT rfl rfl rfl ?_
                        refine At.move rfl rfl ?_
                        refine At.no rfl rfl rfl rfl rfl rfl rfl ?_
                        refine At.no rfl rfl rfl rfl rfl rfl rfl ?_
                        refine At.pickT rfl rfl rfl ?_
                        refine At.move rfl rfl ?_
                        refine At.no rfl rfl rfl rfl rfl rfl rfl ?_
                        refine At.no rfl rfl rfl rfl rfl rfl rfl ?_
                        refine At.pickT rfl rfl rfl ?_
                        refine At.move rfl rfl ?_
                        refine At.no rfl rfl rfl rfl rfl rfl rfl ?_
                        refine At.no rfl rfl rfl rfl rfl rfl rfl ?_
                        refine At.no rfl rfl rfl rfl rfl rfl rfl ?_
                        refine At.noU rfl rfl rfl rfl rfl rfl ?_
                        refine At.noU rfl rfl rfl rfl rfl rfl ?_
                        refine At.no rfl rfl rfl rfl rfl rfl rfl ?_
                        refine At.pickT rfl rfl rfl ?_
                        refine At.move rfl rfl ?_
                        refine At.no rfl rfl rfl rfl rfl rfl rfl ?_
                        refine At.no rfl rfl rfl rfl rfl rfl rfl ?_
                        refine At.pickT rfl rfl rfl ?_
                        refine At.assign rfl rfl ?_
                        exact At.joined (Sub.cons rfl (Sub.cons rfl (Sub.cons rfl (Sub.cons rfl (Sub.cons rfl (Sub.cons (by show some (Value.bool true) = some (Value.bool (((((((((((((((((((((decide (128 ≤ (c.toNat : Int)) || decide ((c.toNat : Int) = 36)) || decide ((c.toNat : Int) = 34)) || decide ((c.toNat : Int) = 37)) || decide ((c.toNat : Int) = 38)) || decide ((c.toNat : Int) = 39)) || decide ((c.toNat : Int) = 46)) || decide ((c.toNat : Int) = 62)) || decide ((c.toNat : Int) = 63)) || decide ((c.toNat : Int) = 64)) || decide ((c.toNat : Int) = 91)) || decide ((c.toNat : Int) = 92)) || decide ((c.toNat : Int) = 93)) || decide ((c.toNat : Int) = 94)) || decide ((c.toNat : Int) = 96)) || decide ((c.toNat : Int) = 124)) || decide ((c.toNat : Int) = 126)) || decide ((c.toNat : Int) < 9)) || decide ((c.toNat : Int) = 11)) || decide ((c.toNat : Int) = 12)) || (decide (13 < (c.toNat : Int)) && decide ((c.toNat : Int) < 32))) || decide ((c.toNat : Int) = 127))); rw [hg1, hg2, hg3, hg4, hg5, hg6, hg7, hg8, hg9, hg10]; rfl) Sub.nil)))))) rfl
                      · skip
                        refine At.set (d := 71) (u := .bool false) rfl (congrArg Value.bool hg10) ?_
                        have hg10' := of_decide_eq_false hg10
                        refine At.yes rfl rfl rfl rfl ?_
                        refine At.move rfl rfl ?_
                        refine At.yes rfl rfl rfl rfl ?_
                        refine At.eqI rfl rfl rfl ?_
                        refine At.pickF rfl rfl rfl ?_
                        refine At.move rfl rfl ?_
                        refine At.cases (decide ((c.toNat : Int) = 91)) (fun hg11 => ?_) (fun hg11 => ?_)
                        · skip
                          refine At.set (d := 75) (u := .bool true) rfl (congrArg Value.bool hg11) ?_
                          have hg11' := of_decide_eq_true hg11
                          refine At.no rfl rfl rfl rfl rfl rfl rfl ?_
                          refine At.no rfl rfl rfl rfl rfl rfl rfl ?_
                          refine At.pickT rfl rfl rfl ?_
                          refine At.move rfl rfl ?_
                          refine At.no rfl rfl rfl rfl rfl rfl rfl ?_
                          refine At.no rfl rfl rfl rfl rfl rfl rfl ?_
                          refine At.pickT rfl rfl rfl ?_
                          refine At.move rfl rfl ?_
                          refine At.no rfl rfl rfl rfl rfl rfl rfl ?_
                          refine At.no rfl rfl rfl rfl rfl rfl rfl ?_
                          refine At.pickT rfl rfl rfl ?_
                          refine At.move rfl rfl ?_
                          refine At.no rfl rfl rfl rfl rfl rfl rfl ?_
                          refine At.no rfl rfl rfl rfl rfl rfl rfl ?_
                          refine At.pickT rfl rfl rfl ?_
                          refine At.move rfl rfl ?_
                          refine At.no rfl rfl rfl rfl rfl rfl rfl ?_
                          refine At.no rfl rfl rfl rfl rfl rfl rfl ?_
                          refine At.pickT rfl rfl rfl ?_
                          refine At.move rfl rfl ?_
                          refine At.no rfl rfl rfl rfl rfl rfl rfl ?_
                          refine At.no rfl rfl rfl rfl rfl rfl rfl ?_
                          refine At.pickT rfl rfl rfl ?_
                          refine At.move rfl rfl ?_
                          refine At.no rfl rfl rfl rfl rfl rfl rfl ?_
                          refine At.no rfl rfl rfl rfl rfl rfl rfl ?_
                          refine At.pickT rfl rfl rfl ?_
                          refine At.move rfl rfl ?_
                          refine At.no rfl rfl rfl rfl rfl rfl rfl ?_
                          refine At.no rfl rfl rfl rfl rfl rfl rfl ?_
                          refine At.pickT rfl rfl rfl ?_
                          refine At.move rfl rfl ?_
                          refine At.no rfl rfl rfl rfl rfl rfl rfl ?_
                          refine At.no rfl rfl rfl rfl rfl rfl rfl ?_
                          refine At.pickT rfl rfl rfl ?_
                          refine At.move rfl rfl ?_
                          refine At.no rfl rfl rfl rfl rfl rfl rfl ?_
                          refine At.no rfl rfl rfl rfl rfl rfl rfl ?_
                          refine At.no rfl rfl rfl rfl rfl rfl rfl ?_
                          refine At.noU rfl rfl rfl rfl rfl rfl ?_
                          refine At.noU rfl rfl rfl rfl rfl rfl ?_
                          refine At.no rfl rfl rfl rfl rfl rfl rfl ?_
                          refine At.pickT rfl rfl rfl ?_
                          refine At.move rfl rfl ?_
                          refine At.no rfl rfl rfl rfl rfl rfl rfl ?_
                          refine At.no rfl rfl rfl rfl rfl rfl rfl ?_
                          refine At.pickT rfl rfl rfl ?_
                          refine At.assign rfl rfl ?_
                          exact At.joined (Sub.cons rfl (Sub.cons rfl (Sub.cons rfl (Sub.cons rfl (Sub.cons rfl (Sub.cons (by show some (Value.bool true) = some (Value.bool (((((((((((((((((((((decide (128 ≤ (c.toNat : Int)) || decide ((c.toNat : Int) = 36)) || decide ((c.toNat : Int) = 34)) || decide ((c.toNat : Int) = 37)) || decide ((c.toNat : Int) = 38)) || decide ((c.toNat : Int) = 39)) || decide ((c.toNat : Int) = 46)) || decide ((c.toNat : Int) = 62)) || decide ((c.toNat : Int) = 63)) || decide ((c.toNat : Int) = 64)) || decide ((c.toNat : Int) = 91)) || decide ((c.toNat : Int) = 92)) || decide ((c.toNat : Int) = 93)) || decide ((c.toNat : Int) = 94)) || decide ((c.toNat : Int) = 96)) || decide ((c.toNat : Int) = 124)) || decide ((c.toNat : Int) = 126)) || decide ((c.toNat : Int) < 9)) || decide ((c.toNat : Int) = 11)) || decide ((c.toNat : Int) = 12)) || (decide (13 < (c.toNat : Int)) && decide ((c.toNat : Int) < 32))) || decide ((c.toNat : Int) = 127))); rw [hg1, hg2, hg3, hg4, hg5, hg6, hg7, hg8, hg9, hg10, hg11]; rfl) Sub.nil)))))) rfl
                        · skip
                          refine At.set (d := 75) (u := .bool false) rfl (congrArg Value.bool hg11) ?_
                          have hg11' := of_decide_eq_false hg11
                          refine At.yes rfl rfl rfl rfl ?_
                          refine At.move rfl rfl ?_
                          refine At.yes rfl rfl rfl rfl ?_
                          refine At.eqI rfl rfl rfl ?_
                          refine At.pickF rfl rfl rfl ?_
                          refine At.move rfl rfl ?_
                          refine At.cases (decide ((c.toNat : Int) = 92)) (fun hg12 => ?_) (fun hg12 => ?_)
                          · skip
                            refine At.set (d := 79) (u := .bool true) rfl (congrArg Value.bool hg12) ?_
                            have hg12' := of_decide_eq_true hg12
                            refine At.no rfl rfl rfl rfl rfl rfl rfl ?_
                            refine At.no rfl rfl rfl rfl rfl rfl rfl ?_
                            refine At.pickT rfl rfl rfl ?_
                            refine At.move rfl rfl ?_
                            refine At.no rfl rfl rfl rfl rfl rfl rfl ?_
                            refine At.no rfl rfl rfl rfl rfl rfl rfl ?_
                            refine At.pickT rfl rfl rfl ?_
                            refine At.move rfl rfl ?_
                            refine At.no rfl rfl rfl rfl rfl rfl rfl ?_
                            refine At.no rfl rfl rfl rfl rfl rfl rfl ?_
                            refine At.pickT rfl rfl rfl ?_
                            refine At.move rfl rfl ?_
                            refine At.no rfl rfl rfl rfl rfl rfl rfl ?_
                            refine At.no rfl rfl rfl rfl rfl rfl rfl ?_
                            refine At.pickT rfl rfl rfl ?_
                            refine At.move rfl rfl ?_
                            refine At.no rfl rfl rfl rfl rfl rfl rfl ?_
                            refine At.no rfl rfl rfl rfl rfl rfl rfl ?_
                            refine At.pickT rfl rfl rfl ?_
                            refine At.move rfl rfl ?_
                            refine At.no rfl rfl rfl rfl rfl rfl rfl ?_
                            refine At.no rfl rfl rfl rfl rfl rfl rfl ?_
                            refine At.pickT rfl rfl rfl ?_
                            refine At.move rfl rfl ?_
                            refine At.no rfl rfl rfl rfl rfl rfl rfl ?_
                            refine At.no rfl rfl rfl rfl rfl rfl rfl ?_
                            refine At.pickT rfl rfl rfl ?_
                            refine At.move rfl rfl ?_
                            refine At.no rfl rfl rfl rfl rfl rfl rfl ?_
                            refine At.no rfl rfl rfl rfl rfl rfl rfl ?_
                            refine At.pickT rfl rfl rfl ?_
                            refine At.move rfl rfl ?_
                            refine At.no rfl rfl rfl rfl rfl rfl rfl ?_
                            refine At.no rfl rfl rfl rfl rfl rfl rfl ?_
                            refine At.no rfl rfl rfl rfl rfl rfl rfl ?_
                            refine At.noU rfl rfl rfl rfl rfl rfl ?_
                            refine At.noU rfl rfl rfl rfl rfl rfl ?_
                            refine At.no rfl rfl rfl rfl rfl rfl rfl ?_
                            refine At.pickT rfl rfl rfl ?_
                            refine At.move rfl rfl ?_
                            refine At.no rfl rfl rfl rfl rfl rfl rfl ?_
                            refine At.no rfl rfl rfl rfl rfl rfl rfl ?_
                            refine At.pickT rfl rfl rfl ?_
                            refine At.assign rfl rfl ?_
                            exact At.joined (Sub.cons rfl (Sub.cons rfl (Sub.cons rfl (Sub.cons rfl (Sub.cons rfl (Sub.cons (by show some (Value.bool true) = some (Value.bool (((((((((((((((((((((decide (128 ≤ (c.toNat : Int)) || decide ((c.toNat : Int) = 36)) || decide ((c.toNat : Int) = 34)) || decide ((c.toNat : Int) = 37)) || decide ((c.toNat : Int) = 38)) || decide ((c.toNat : Int) = 39)) || decide ((c.toNat : Int) = 46)) || decide ((c.toNat : Int) = 62)) || decide ((c.toNat : Int) = 63)) || decide ((c.toNat : Int) = 64)) || decide ((c.toNat : Int) = 91)) || decide ((c.toNat : Int) = 92)) || decide ((c.toNat : Int) = 93)) || decide ((c.toNat : Int) = 94)) || decide ((c.toNat : Int) = 96)) || decide ((c.toNat : Int) = 124)) || decide ((c.toNat : Int) = 126)) || decide ((c.toNat : Int) < 9)) || decide ((c.toNat : Int) = 11)) || decide ((c.toNat : Int) = 12)) || (decide (13 < (c.toNat : Int)) && decide ((c.toNat : Int) < 32))) || decide ((c.toNat : Int) = 127))); rw [hg1, hg2, hg3, hg4, hg5, hg6, hg7, hg8, hg9, hg10, hg11, hg12]; rfl) Sub.nil)))))) rfl
                          · skip
                            refine At.set (d := 79) (u := .bool false) rfl (congrArg Value.bool hg12) ?_
                            have hg12' := of_decide_eq_false hg12
                            refine At.yes rfl rfl rfl rfl ?_
                            refine At.move rfl rfl ?_
                            refine At.yes rfl rfl rfl rfl ?_
                            refine At.eqI rfl rfl rfl ?_
                            refine At.pickF rfl rfl rfl ?_
                            refine At.move rfl rfl ?_
                            refine At.cases (decide ((c.toNat : Int) = 93)) (fun hg13 => ?_) (fun hg13 => ?_)
                            · skip
                              refine At.set (d := 83) (u := .bool true) rfl (congrArg Value.bool hg13) ?_
                              have hg13' := of_decide_eq_true hg13
                              refine At.no rfl rfl rfl rfl rfl rfl rfl ?_
                              refine At.no rfl rfl rfl rfl rfl rfl rfl ?_
                              refine At.pickT rfl rfl rfl ?_
                              refine At.move rfl rfl ?_
                              refine At.no rfl rfl rfl rfl rfl rfl rfl ?_
                              refine At.no rfl rfl rfl rfl rfl rfl rfl ?_
                              refine At.pickT rfl rfl rfl ?_
                              refine At.move rfl rfl ?_
                              refine At.no rfl rfl rfl rfl rfl rfl rfl ?_
                              refine At.no rfl rfl rfl rfl rfl rfl rfl ?_
                              refine At.pickT rfl rfl rfl ?_
                              refine At.move rfl rfl ?_
                              refine At.no rfl rfl rfl rfl rfl rfl rfl ?_
                              refine At.no rfl rfl rfl rfl rfl rfl rfl ?_
                              refine At.pickT rfl rfl rfl ?_
                              refine At.move rfl rfl ?_
                              refine At.no rfl rfl rfl rfl rfl rfl rfl ?_
                              refine At.no rfl rfl rfl rfl rfl rfl rfl ?_
                              refine At.pickT rfl rfl rfl ?_
                              refine At.move rfl rfl ?_
                              refine At.no rfl rfl rfl rfl rfl rfl rfl ?_
                              refine At.no rfl rfl rfl rfl rfl rfl rfl ?_
                              refine At.pickT rfl rfl rfl ?_
                              refine At.move rfl rfl ?_
                              refine At.no rfl rfl rfl rfl rfl rfl rfl ?_
                              refine At.no rfl rfl rfl rfl rfl rfl rfl ?_
                              refine At.pickT rfl rfl rfl ?_
                              refine At.move rfl rfl ?_
                              refine At.no rfl rfl rfl rfl rfl rfl rfl ?_
                              refine At.no rfl rfl rfl rfl rfl rfl rfl ?_
                              refine At.no rfl rfl rfl rfl rfl rfl rfl ?_
                              refine At.noU rfl rfl rfl rfl rfl rfl ?_
                              refine At.noU rfl rfl rfl rfl rfl rfl ?_
                              refine At.no rfl rfl rfl rfl rfl rfl rfl ?_
                              refine At.pickT rfl rfl rfl ?_
                              refine At.move rfl rfl ?_
                              refine At.no rfl rfl rfl rfl rfl rfl rfl ?_
                              refine At.no rfl rfl rfl rfl rfl rfl rfl ?_
                              refine At.pickT rfl rfl rfl ?_
                              refine At.assign rfl rfl ?_
                              exact At.joined (Sub.cons rfl (Sub.cons rfl (Sub.cons rfl (Sub.cons rfl (Sub.cons rfl (Sub.cons (by show some (Value.bool true) = some (Value.bool (((((((((((((((((((((decide (128 ≤ (c.toNat : Int)) || decide ((c.toNat : Int) = 36)) || decide ((c.toNat : Int) = 34)) || decide ((c.toNat : Int) = 37)) || decide ((c.toNat : Int) = 38)) || decide ((c.toNat : Int) = 39)) || decide ((c.toNat : Int) = 46)) || decide ((c.toNat : Int) = 62)) || decide ((c.toNat : Int) = 63)) || decide ((c.toNat : Int) = 64)) || decide ((c.toNat : Int) = 91)) || decide ((c.toNat : Int) = 92)) || decide ((c.toNat : Int) = 93)) || decide ((c.toNat : Int) = 94)) || decide ((c.toNat : Int) = 96)) || decide ((c.toNat : Int) = 124)) || decide ((c.toNat : Int) = 126)) || decide ((c.toNat : Int) < 9)) || decide ((c.toNat : Int) = 11)) || decide ((c.toNat : Int) = 12)) || (decide (13 < (c.toNat : Int)) && decide ((c.toNat : Int) < 32))) || decide ((c.toNat : Int) = 127))); rw [hg1, hg2, hg3, hg4, hg5, hg6, hg7, hg8, hg9, hg10, hg11, hg12, hg13]; rfl) Sub.nil)))))) rfl
                            · skip
                              refine At.set (d := 83) (u := .bool false) rfl (congrArg Value.bool hg13) ?_
                              have hg13' := of_decide_eq_false hg13
                              refine At.yes rfl rfl rfl rfl ?_
                              refine At.move rfl rfl ?_
                              refine At.yes rfl rfl rfl rfl ?_
                              refine At.eqI rfl rfl rfl ?_
                              refine At.pickF rfl rfl rfl ?_
                              refine At.move rfl rfl ?_
                              refine At.cases (decide ((c.toNat : Int) = 94)) (fun hg14 => ?_) (fun hg14 => ?_)
                              · skip
                                refine At.set (d := 87) (u := .bool true) rfl (congrArg Value.bool hg14) ?_
                                have hg14' := of_decide_eq_true hg14
                                refine At.no rfl rfl rfl rfl rfl rfl rfl ?_
                                refine At.no rfl rfl rfl rfl rfl rfl rfl ?_
                                refine At.pickT rfl rfl rfl ?_
                                refine At.move rfl rfl ?_
                                refine At.no rfl rfl rfl rfl rfl rfl rfl ?_
                                refine At.no rfl rfl rfl rfl rfl rfl rfl ?_
                                refine At.pickT rfl rfl rfl ?_
                                refine At.move rfl rfl ?_
                                refine At.no rfl rfl rfl rfl rfl rfl rfl ?_
                                refine At.no rfl rfl rfl rfl rfl rfl rfl ?_
                                refine At.pickT rfl rfl rfl ?_
                                refine At.move rfl rfl ?_
                                refine At.no rfl rfl rfl rfl rfl rfl rfl ?_
                                refine At.no rfl rfl rfl rfl rfl rfl rfl ?_
                                refine At.pickT rfl rfl rfl ?_
                                refine At.move rfl rfl ?_
                                refine At.no rfl rfl rfl rfl rfl rfl rfl ?_
                                refine At.no rfl rfl rfl rfl rfl rfl rfl ?_
                                refine At.pickT rfl rfl rfl ?_
                                refine At.move rfl rfl ?_
                                refine At.no rfl rfl rfl rfl rfl rfl rfl ?_
                                refine At.no rfl rfl rfl rfl rfl rfl rfl ?_
                                refine At.pickT rfl rfl rfl ?_
                                refine At.move rfl rfl ?_
                                refine At.no rfl rfl rfl rfl rfl rfl rfl ?_
                                refine At.no rfl rfl rfl rfl rfl rfl rfl ?_
                                refine At.no rfl rfl rfl rfl rfl rfl rfl ?_
                                refine At.noU rfl rfl rfl rfl rfl rfl ?_
                                refine At.noU rfl rfl rfl rfl rfl rfl ?_
                                refine At.no rfl rfl rfl rfl rfl rfl rfl ?_
                                refine At.pickT rfl rfl rfl ?_
                                refine At.move rfl rfl ?_
                                refine At.no rfl rfl rfl rfl rfl rfl rfl ?_
                                refine At.no rfl rfl rfl rfl rfl rfl rfl ?_
                                refine At.pickT rfl rfl rfl ?_
                                refine At.assign rfl rfl ?_
                                exact At.joined (Sub.cons rfl (Sub.cons rfl (Sub.cons rfl (Sub.cons rfl (Sub.cons rfl (Sub.cons (by show some (Value.bool true) = some (Value.bool (((((((((((((((((((((decide (128 ≤ (c.toNat : Int)) || decide ((c.toNat : Int) = 36)) || decide ((c.toNat : Int) = 34)) || decide ((c.toNat : Int) = 37)) || decide ((c.toNat : Int) = 38)) || decide ((c.toNat : Int) = 39)) || decide ((c.toNat : Int) = 46)) || decide ((c.toNat : Int) = 62)) || decide ((c.toNat : Int) = 63)) || decide ((c.toNat : Int) = 64)) || decide ((c.toNat : Int) = 91)) || decide ((c.toNat : Int) = 92)) || decide ((c.toNat : Int) = 93)) || decide ((c.toNat : Int) = 94)) || decide ((c.toNat : Int) = 96)) || decide ((c.toNat : Int) = 124)) || decide ((c.toNat : Int) = 126)) || decide ((c.toNat : Int) < 9)) || decide ((c.toNat : Int) = 11)) || decide ((c.toNat : Int) = 12)) || (decide (13 < (c.toNat : Int)) && decide ((c.toNat : Int) < 32))) || decide ((c.toNat : Int) = 127))); rw [hg1, hg2, hg3, hg4, hg5, hg6, hg7, hg8, hg9, hg10, hg11, hg12, hg13, hg14]; rfl) Sub.nil)))))) rfl
                              · skip
                                refine At.set (d := 87) (u := .bool false) rfl (congrArg Value.bool hg14) ?_
                                have hg14' := of_decide_eq_false hg14
                                refine At.yes rfl rfl rfl rfl ?_
                                refine At.move rfl rfl ?_
                                refine At.yes rfl rfl rfl rfl ?_
                                refine At.eqI rfl rfl rfl ?_
                                refine At.pickF rfl rfl rfl ?_
                                refine At.move rfl rfl ?_
                                refine At.cases (decide ((c.toNat : Int) = 96)) (fun hg15 => ?_) (fun hg15 => ?_)
                                · skip
                                  refine At.set (d := 91) (u := .bool true) rfl (congrArg Value.bool hg15) ?_
                                  have hg15' := of_decide_eq_true hg15
                                  refine At.no rfl rfl rfl rfl rfl rfl rfl ?_
                                  refine At.no rfl rfl rfl rfl rfl rfl rfl ?_
                                  refine At.pickT rfl rfl rfl ?_
                                  refine At.move rfl rfl ?_
                                  refine At.no rfl rfl rfl rfl rfl rfl rfl ?_
                                  refine At.no rfl rfl rfl rfl rfl rfl rfl ?_
                                  refine At.pickT rfl rfl rfl ?_
                                  refine At.move rfl rfl ?_
                                  refine At.no rfl rfl rfl rfl rfl rfl rfl ?_
                                  refine At.no rfl rfl rfl rfl rfl rfl rfl ?_
                                  refine At.pickT rfl rfl rfl ?_
                                  refine At.move rfl rfl ?_
                                  refine At.no rfl rfl rfl rfl rfl rfl rfl ?_
                                  refine At.no rfl rfl rfl rfl rfl rfl rfl ?_
                                  refine At.pickT rfl rfl rfl ?_
                                  refine At.move rfl rfl ?_
                                  refine At.no rfl rfl rfl rfl rfl rfl rfl ?_
                                  refine At.no rfl rfl rfl rfl rfl rfl rfl ?_
                                  refine At.pickT rfl rfl rfl ?_
                                  refine At.move rfl rfl ?_
                                  refine At.no rfl rfl rfl rfl rfl rfl rfl ?_
                                  refine At.no rfl rfl rfl rfl rfl rfl rfl ?_
                                  refine At.no rfl rfl rfl rfl rfl rfl rfl ?_
                                  refine At.noU rfl rfl rfl rfl rfl rfl ?_
                                  refine At.noU rfl rfl rfl rfl rfl rfl ?_
                                  refine At.no rfl rfl rfl rfl rfl rfl rfl ?_
                                  refine At.pickT rfl rfl rfl ?_
                                  refine At.move rfl rfl ?_
                                  refine At.no rfl rfl rfl rfl rfl rfl rfl ?_
                                  refine At.no rfl rfl rfl rfl rfl rfl rfl ?_
                                  refine At.pickT rfl rfl rfl ?_
                                  refine At.assign rfl rfl ?_
                                  exact At.joined (Sub.cons rfl (Sub.cons rfl (Sub.cons rfl (Sub.cons rfl (Sub.cons rfl (Sub.cons (by show some (Value.bool true) = some (Value.bool (((((((((((((((((((((decide (128 ≤ (c.toNat : Int)) || decide ((c.toNat : Int) = 36)) || decide ((c.toNat : Int) = 34)) || decide ((c.toNat : Int) = 37)) || decide ((c.toNat : Int) = 38)) || decide ((c.toNat : Int) = 39)) || decide ((c.toNat : Int) = 46)) || decide ((c.toNat : Int) = 62)) || decide ((c.toNat : Int) = 63)) || decide ((c.toNat : Int) = 64)) || decide ((c.toNat : Int) = 91)) || decide ((c.toNat : Int) = 92)) || decide ((c.toNat : Int) = 93)) || decide ((c.toNat : Int) = 94)) || decide ((c.toNat : Int) = 96)) || decide ((c.toNat : Int) = 124)) || decide ((c.toNat : Int) = 126)) || decide ((c.toNat : Int) < 9)) || decide ((c.toNat : Int) = 11)) || decide ((c.toNat : Int) = 12)) || (decide (13 < (c.toNat : Int)) && decide ((c.toNat : Int) < 32))) || decide ((c.toNat : Int) = 127))); rw [hg1, hg2, hg3, hg4, hg5, hg6, hg7, hg8, hg9, hg10, hg11, hg12, hg13, hg14, hg15]; rfl) Sub.nil)))))) rfl
                                · skip
                                  refine At.set (d := 91) (u := .bool false) rfl (congrArg Value.bool hg15) ?_
                                  have hg15' := of_decide_eq_false hg15
                                  refine At.yes rfl rfl rfl rfl ?_
                                  refine At.move rfl rfl ?_
                                  refine At.yes rfl rfl rfl rfl ?_
                                  refine At.eqI rfl rfl rfl ?_
                                  refine At.pickF rfl rfl rfl ?_
                                  refine At.move rfl rfl ?_
                                  refine At.cases (decide ((c.toNat : Int) = 124)) (fun hg16 => ?_) (fun hg16 => ?_)
                                  · skip
                                    refine At.set (d := 95) (u := .bool true) rfl (congrArg Value.bool hg16) ?_
                                    have hg16' := of_decide_eq_true hg16
                                    refine At.no rfl rfl rfl rfl rfl rfl rfl ?_
                                    refine At.no rfl rfl rfl rfl rfl rfl rfl ?_
                                    refine At.pickT rfl rfl rfl ?_
                                    refine At.move rfl rfl ?_
                                    refine At.no rfl rfl rfl rfl rfl rfl rfl ?_
                                    refine At.no rfl rfl rfl rfl rfl rfl rfl ?_
                                    refine At.pickT rfl rfl rfl ?_
                                    refine At.move rfl rfl ?_
                                    refine At.no rfl rfl rfl rfl rfl rfl rfl ?_
                                    refine At.no rfl rfl rfl rfl rfl rfl rfl ?_
                                    refine At.pickT rfl rfl rfl ?_
                                    refine At.move rfl rfl ?_
                                    refine At.no rfl rfl rfl rfl rfl rfl rfl ?_
                                    refine At.no rfl rfl rfl rfl rfl rfl rfl ?_
                                    refine At.pickT rfl rfl rfl ?_
                                    refine At.move rfl rfl ?_
                                    refine At.no rfl rfl rfl rfl rfl rfl rfl ?_
                                    refine At.no rfl rfl rfl rfl rfl rfl rfl ?_
                                    refine At.no rfl rfl rfl rfl rfl rfl rfl ?_
                                    refine At.noU rfl rfl rfl rfl rfl rfl ?_
                                    refine At.noU rfl rfl rfl rfl rfl rfl ?_
                                    refine At.no rfl rfl rfl rfl rfl rfl rfl ?_
                                    refine At.pickT rfl rfl rfl ?_
                                    refine At.move rfl rfl ?_
                                    refine At.no rfl rfl rfl rfl rfl rfl rfl ?_
                                    refine At.no rfl rfl rfl rfl rfl rfl rfl ?_
                                    refine At.pickT rfl rfl rfl ?_
                                    refine At.assign rfl rfl ?_
                                    exact At.joined (Sub.cons rfl (Sub.cons rfl (Sub.cons rfl (Sub.cons rfl (Sub.cons rfl (Sub.cons (by show some (Value.bool true) = some (Value.bool (((((((((((((((((((((decide (128 ≤ (c.toNat : Int)) || decide ((c.toNat : Int) = 36)) || decide ((c.toNat : Int) = 34)) || decide ((c.toNat : Int) = 37)) || decide ((c.toNat : Int) = 38)) || decide ((c.toNat : Int) = 39)) || decide ((c.toNat : Int) = 46)) || decide ((c.toNat : Int) = 62)) || decide ((c.toNat : Int) = 63)) || decide ((c.toNat : Int) = 64)) || decide ((c.toNat : Int) = 91)) || decide ((c.toNat : Int) = 92)) || decide ((c.toNat : Int) = 93)) || decide ((c.toNat : Int) = 94)) || decide ((c.toNat : Int) = 96)) || decide ((c.toNat : Int) = 124)) || decide ((c.toNat : Int) = 126)) || decide ((c.toNat : Int) < 9)) || decide ((c.toNat : Int) = 11)) || decide ((c.toNat : Int) = 12)) || (decide (13 < (c.toNat : Int)) && decide ((c.toNat : Int) < 32))) || decide ((c.toNat : Int) = 127))); rw [hg1, hg2, hg3, hg4, hg5, hg6, hg7, hg8, hg9, hg10, hg11, hg12, hg13, hg14, hg15, hg16]; rfl) Sub.nil)))))) rfl
                                  · skip
                                    refine At.set (d := 95) (u := .bool false) rfl (congrArg Value.bool hg16) ?_
                                    have hg16' := of_decide_eq_false hg16
                                    refine At.yes rfl rfl rfl rfl ?_
                                    refine At.move rfl rfl ?_
                                    refine At.yes rfl rfl rfl rfl ?_
                                    refine At.eqI rfl rfl rfl ?_
                                    refine At.pickF rfl rfl rfl ?_
                                    refine At.move rfl rfl ?_
                                    refine At.cases (decide ((c.toNat : Int) = 126)) (fun hg17 => ?_) (fun hg17 => ?_)
                                    · skip
                                      refine At.set (d := 99) (u := .bool true) rfl (congrArg Value.bool hg17) ?_
                                      have hg17' := of_decide_eq_true hg17
                                      refine At.no rfl rfl rfl rfl rfl rfl rfl ?_
                                      refine At.no rfl rfl rfl rfl rfl rfl rfl ?_
                                      refine At.pickT rfl rfl rfl ?_
                                      refine At.move rfl rfl ?_
                                      refine At.no rfl rfl rfl rfl rfl rfl rfl ?_
                                      refine At.no rfl rfl rfl rfl rfl rfl rfl ?_
                                      refine At.pickT rfl rfl rfl ?_
                                      refine At.move rfl rfl ?_
                                      refine At.no rfl rfl rfl rfl rfl rfl rfl ?_
                                      refine At.no rfl rfl rfl rfl rfl rfl rfl ?_
                                      refine At.pickT rfl rfl rfl ?_
                                      refine At.move rfl rfl ?_
                                      refine At.no rfl rfl rfl rfl rfl rfl rfl ?_
                                      refine At.no rfl rfl rfl rfl rfl rfl rfl ?_
                                      refine At.no rfl rfl rfl rfl rfl rfl rfl ?_
                                      refine At.noU rfl rfl rfl rfl rfl rfl ?_
                                      refine At.noU rfl rfl rfl rfl rfl rfl ?_
                                      refine At.no rfl rfl rfl rfl rfl rfl rfl ?_
                                      refine At.pickT rfl rfl rfl ?_
                                      refine At.move rfl rfl ?_
                                      refine At.no rfl rfl rfl rfl rfl rfl rfl ?_
                                      refine At.no rfl rfl rfl rfl rfl rfl rfl ?_
                                      refine At.pickT rfl rfl rfl ?_
                                      refine At.assign rfl rfl ?_
                                      exact At.joined (Sub.cons rfl (Sub.cons rfl (Sub.cons rfl (Sub.cons rfl (Sub.cons rfl (Sub.cons (by show some (Value.bool true) = some (Value.bool (((((((((((((((((((((decide (128 ≤ (c.toNat : Int)) || decide ((c.toNat : Int) = 36)) || decide ((c.toNat : Int) = 34)) || decide ((c.toNat : Int) = 37)) || decide ((c.toNat : Int) = 38)) || decide ((c.toNat : Int) = 39)) || decide ((c.toNat : Int) = 46)) || decide ((c.toNat : Int) = 62)) || decide ((c.toNat : Int) = 63)) || decide ((c.toNat : Int) = 64)) || decide ((c.toNat : Int) = 91)) || decide ((c.toNat : Int) = 92)) || decide ((c.toNat : Int) = 93)) || decide ((c.toNat : Int) = 94)) || decide ((c.toNat : Int) = 96)) || decide ((c.toNat : Int) = 124)) || decide ((c.toNat : Int) = 126)) || decide ((c.toNat : Int) < 9)) || decide ((c.toNat : Int) = 11)) || decide ((c.toNat : Int) = 12)) || (decide (13 < (c.toNat : Int)) && decide ((c.toNat : Int) < 32))) || decide ((c.toNat : Int) = 127))); rw [hg1, hg2, hg3, hg4, hg5, hg6, hg7, hg8, hg9, hg10, hg11, hg12, hg13, hg14, hg15, hg16, hg17]; rfl) Sub.nil)))))) rfl
                                    · skip
                                      refine At.set (d := 99) (u := .bool false) rfl (congrArg Value.bool hg17) ?_
                                      have hg17' := of_decide_eq_false hg17
                                      refine At.yes rfl rfl rfl rfl ?_
                                      refine At.move rfl rfl ?_
                                      refine At.yes rfl rfl rfl rfl ?_
                                      refine At.lss rfl rfl rfl ?_
                                      refine At.pickF rfl rfl rfl ?_
                                      refine At.move rfl rfl ?_
                                      refine At.cases (decide ((c.toNat : Int) < 9)) (fun hg18 => ?_) (fun hg18 => ?_)
                                      · skip
                                        refine At.set (d := 103) (u := .bool true) rfl (congrArg Value.bool hg18) ?_
                                        have hg18' := of_decide_eq_true hg18
                                        refine At.no rfl rfl rfl rfl rfl rfl rfl ?_
                                        refine At.no rfl rfl rfl rfl rfl rfl rfl ?_
                                        refine At.pickT rfl rfl rfl ?_
                                        refine At.move rfl rfl ?_
                                        refine At.no rfl rfl rfl rfl rfl rfl rfl ?_
                                        refine At.no rfl rfl rfl rfl rfl rfl rfl ?_
                                        refine At.pickT rfl rfl rfl ?_
                                        refine At.move rfl rfl ?_
                                        refine At.no rfl rfl rfl rfl rfl rfl rfl ?_
                                        refine At.no rfl rfl rfl rfl rfl rfl rfl ?_
                                        refine At.no rfl rfl rfl rfl rfl rfl rfl ?_
                                        refine At.noU rfl rfl rfl rfl rfl rfl ?_
                                        refine At.noU rfl rfl rfl rfl rfl rfl ?_
                                        refine At.no rfl rfl rfl rfl rfl rfl rfl ?_
                                        refine At.pickT rfl rfl rfl ?_
                                        refine At.move rfl rfl ?_
                                        refine At.no rfl rfl rfl rfl rfl rfl rfl ?_
                                        refine At.no rfl rfl rfl rfl rfl rfl rfl ?_
                                        refine At.pickT rfl rfl rfl ?_
                                        refine At.assign rfl rfl ?_
                                        exact At.joined (Sub.cons rfl (Sub.cons rfl (Sub.cons rfl (Sub.cons rfl (Sub.cons rfl (Sub.cons (by show some (Value.bool true) = some (Value.bool (((((((((((((((((((((decide (128 ≤ (c.toNat : Int)) || decide ((c.toNat : Int) = 36)) || decide ((c.toNat : Int) = 34)) || decide ((c.toNat : Int) = 37)) || decide ((c.toNat : Int) = 38)) || decide ((c.toNat : Int) = 39)) || decide ((c.toNat : Int) = 46)) || decide ((c.toNat : Int) = 62)) || decide ((c.toNat : Int) = 63)) || decide ((c.toNat : Int) = 64)) || decide ((c.toNat : Int) = 91)) || decide ((c.toNat : Int) = 92)) || decide ((c.toNat : Int) = 93)) || decide ((c.toNat : Int) = 94)) || decide ((c.toNat : Int) = 96)) || decide ((c.toNat : Int) = 124)) || decide ((c.toNat : Int) = 126)) || decide ((c.toNat : Int) < 9)) || decide ((c.toNat : Int) = 11)) || decide ((c.toNat : Int) = 12)) || (decide (13 < (c.toNat : Int)) && decide ((c.toNat : Int) < 32))) || decide ((c.toNat : Int) = 127))); rw [hg1, hg2, hg3, hg4, hg5, hg6, hg7, hg8, hg9, hg10, hg11, hg12, hg13, hg14, hg15, hg16, hg17, hg18]; rfl) Sub.nil)))))) rfl
                                      · skip
                                        refine At.set (d := 103) (u := .bool false) rfl (congrArg Value.bool hg18) ?_
                                        have hg18' := of_decide_eq_false hg18
                                        refine At.yes rfl rfl rfl rfl ?_
                                        refine At.move rfl rfl ?_
                                        refine At.yes rfl rfl rfl rfl ?_
                                        refine At.eqI rfl rfl rfl ?_
                                        refine At.pickF rfl rfl rfl ?_
                                        refine At.move rfl rfl ?_
                                        refine At.cases (decide ((c.toNat : Int) = 11)) (fun hg19 => ?_) (fun hg19 => ?_)
                                        · skip
                                          refine At.set (d := 107) (u := .bool true) rfl (congrArg Value.bool hg19) ?_
                                          have hg19' := of_decide_eq_true hg19
                                          refine At.no rfl rfl rfl rfl rfl rfl rfl ?_
                                          refine At.no rfl rfl rfl rfl rfl rfl rfl ?_
                                          refine At.pickT rfl rfl rfl ?_
                                          refine At.move rfl rfl ?_
                                          refine At.no rfl rfl rfl rfl rfl rfl rfl ?_
                                          refine At.no rfl rfl rfl rfl rfl rfl rfl ?_
                                          refine At.no rfl rfl rfl rfl rfl rfl rfl ?_
                                          refine At.noU rfl rfl rfl rfl rfl rfl ?_
                                          refine At.noU rfl rfl rfl rfl rfl rfl ?_
                                          refine At.no rfl rfl rfl rfl rfl rfl rfl ?_
                                          refine At.pickT rfl rfl rfl ?_
                                          refine At.move rfl rfl ?_
                                          refine At.no rfl rfl rfl rfl rfl rfl rfl ?_
                                          refine At.no rfl rfl rfl rfl rfl rfl rfl ?_
                                          refine At.pickT rfl rfl rfl ?_
                                          refine At.assign rfl rfl ?_
                                          exact At.joined (Sub.cons rfl (Sub.cons rfl (Sub.cons rfl (Sub.cons rfl (Sub.cons rfl (Sub.cons (by show some (Value.bool true) = some (Value.bool (((((((((((((((((((((decide (128 ≤ (c.toNat : Int)) || decide ((c.toNat : Int) = 36)) || decide ((c.toNat : Int) = 34)) || decide ((c.toNat : Int) = 37)) || decide ((c.toNat : Int) = 38)) || decide ((c.toNat : Int) = 39)) || decide ((c.toNat : Int) = 46)) || decide ((c.toNat : Int) = 62)) || decide ((c.toNat : Int) = 63)) || decide ((c.toNat : Int) = 64)) || decide ((c.toNat : Int) = 91)) || decide ((c.toNat : Int) = 92)) || decide ((c.toNat : Int) = 93)) || decide ((c.toNat : Int) = 94)) || decide ((c.toNat : Int) = 96)) || decide ((c.toNat : Int) = 124)) || decide ((c.toNat : Int) = 126)) || decide ((c.toNat : Int) < 9)) || decide ((c.toNat : Int) = 11)) || decide ((c.toNat : Int) = 12)) || (decide (13 < (c.toNat : Int)) && decide ((c.toNat : Int) < 32))) || decide ((c.toNat : Int) = 127))); rw [hg1, hg2, hg3, hg4, hg5, hg6, hg7, hg8, hg9, hg10, hg11, hg12, hg13, hg14, hg15, hg16, hg17, hg18, hg19]; rfl) Sub.nil)))))) rfl
                                        · skip
                                          refine At.set (d := 107) (u := .bool false) rfl (congrArg Value.bool hg19) ?_
                                          have hg19' := of_decide_eq_false hg19
                                          refine At.yes rfl rfl rfl rfl ?_
                                          refine At.move rfl rfl ?_
                                          refine At.yes rfl rfl rfl rfl ?_
                                          refine At.eqI rfl rfl rfl ?_
                                          refine At.pickF rfl rfl rfl ?_
                                          refine At.move rfl rfl ?_
                                          refine At.cases (decide ((c.toNat : Int) = 12)) (fun hg20 => ?_) (fun hg20 => ?_)
                                          · skip
                                            refine At.set (d := 111) (u := .bool true) rfl (congrArg Value.bool hg20) ?_
                                            have hg20' := of_decide_eq_true hg20
                                            refine At.no rfl rfl rfl rfl rfl rfl rfl ?_
                                            refine At.no rfl rfl rfl rfl rfl rfl rfl ?_
                                            refine At.no rfl rfl rfl rfl rfl rfl rfl ?_
                                            refine At.noU rfl rfl rfl rfl rfl rfl ?_
                                            refine At.noU rfl rfl rfl rfl rfl rfl ?_
                                            refine At.no rfl rfl rfl rfl rfl rfl rfl ?_
                                            refine At.pickT rfl rfl rfl ?_
                                            refine At.move rfl rfl ?_
                                            refine At.no rfl rfl rfl rfl rfl rfl rfl ?_
                                            refine At.no rfl rfl rfl rfl rfl rfl rfl ?_
                                            refine At.pickT rfl rfl rfl ?_
                                            refine At.assign rfl rfl ?_
                                            exact At.joined (Sub.cons rfl (Sub.cons rfl (Sub.cons rfl (Sub.cons rfl (Sub.cons rfl (Sub.cons (by show some (Value.bool true) = some (Value.bool (((((((((((((((((((((decide (128 ≤ (c.toNat : Int)) || decide ((c.toNat : Int) = 36)) || decide ((c.toNat : Int) = 34)) || decide ((c.toNat : Int) = 37)) || decide ((c.toNat : Int) = 38)) || decide ((c.toNat : Int) = 39)) || decide ((c.toNat : Int) = 46)) || decide ((c.toNat : Int) = 62)) || decide ((c.toNat : Int) = 63)) || decide ((c.toNat : Int) = 64)) || decide ((c.toNat : Int) = 91)) || decide ((c.toNat : Int) = 92)) || decide ((c.toNat : Int) = 93)) || decide ((c.toNat : Int) = 94)) || decide ((c.toNat : Int) = 96)) || decide ((c.toNat : Int) = 124)) || decide ((c.toNat : Int) = 126)) || decide ((c.toNat : Int) < 9)) || decide ((c.toNat : Int) = 11)) || decide ((c.toNat : Int) = 12)) || (decide (13 < (c.toNat : Int)) && decide ((c.toNat : Int) < 32))) || decide ((c.toNat : Int) = 127))); rw [hg1, hg2, hg3, hg4, hg5, hg6, hg7, hg8, hg9, hg10, hg11, hg12, hg13, hg14, hg15, hg16, hg17, hg18, hg19, hg20]; rfl) Sub.nil)))))) rfl
                                          · skip
                                            refine At.set (d := 111) (u := .bool false) rfl (congrArg Value.bool hg20) ?_
                                            have hg20' := of_decide_eq_false hg20
                                            refine At.yes rfl rfl rfl rfl ?_
                                            refine At.move rfl rfl ?_
                                            refine At.yes rfl rfl rfl rfl ?_
                                            refine At.gtr rfl rfl rfl ?_
                                            refine At.yes rfl rfl rfl rfl ?_
                                            refine At.move rfl rfl ?_
                                            refine At.cases (decide (13 < (c.toNat : Int))) (fun hg21 => ?_) (fun hg21 => ?_)
                                            · skip
                                              refine At.set (d := 114) (u := .bool true) rfl (congrArg Value.bool hg21) ?_
                                              have hg21' := of_decide_eq_true hg21
                                              refine At.yes rfl rfl rfl rfl ?_
                                              refine At.move rfl rfl ?_
                                              refine At.yes rfl rfl rfl rfl ?_
                                              refine At.lss rfl rfl rfl ?_
                                              refine At.yes rfl rfl rfl rfl ?_
                                              refine At.pickT rfl rfl rfl ?_
                                              refine At.pickF rfl rfl rfl ?_
                                              refine At.move rfl rfl ?_
                                              refine At.cases (decide ((c.toNat : Int) < 32)) (fun hg22 => ?_) (fun hg22 => ?_)
                                              · skip
                                                refine At.set (d := 119) (u := .bool true) rfl (congrArg Value.bool hg22) ?_
                                                have hg22' := of_decide_eq_true hg22
                                                refine At.no rfl rfl rfl rfl rfl rfl rfl ?_
                                                refine At.no rfl rfl rfl rfl rfl rfl rfl ?_
                                                refine At.pickT rfl rfl rfl ?_
                                                refine At.assign rfl rfl ?_
                                                exact At.joined (Sub.cons rfl (Sub.cons rfl (Sub.cons rfl (Sub.cons rfl (Sub.cons rfl (Sub.cons (by show some (Value.bool true) = some (Value.bool (((((((((((((((((((((decide (128 ≤ (c.toNat : Int)) || decide ((c.toNat : Int) = 36)) || decide ((c.toNat : Int) = 34)) || decide ((c.toNat : Int) = 37)) || decide ((c.toNat : Int) = 38)) || decide ((c.toNat : Int) = 39)) || decide ((c.toNat : Int) = 46)) || decide ((c.toNat : Int) = 62)) || decide ((c.toNat : Int) = 63)) || decide ((c.toNat : Int) = 64)) || decide ((c.toNat : Int) = 91)) || decide ((c.toNat : Int) = 92)) || decide ((c.toNat : Int) = 93)) || decide ((c.toNat : Int) = 94)) || decide ((c.toNat : Int) = 96)) || decide ((c.toNat : Int) = 124)) || decide ((c.toNat : Int) = 126)) || decide ((c.toNat : Int) < 9)) || decide ((c.toNat : Int) = 11)) || decide ((c.toNat : Int) = 12)) || (decide (13 < (c.toNat : Int)) && decide ((c.toNat : Int) < 32))) || decide ((c.toNat : Int) = 127))); rw [hg1, hg2, hg3, hg4, hg5, hg6, hg7, hg8, hg9, hg10, hg11, hg12, hg13, hg14, hg15, hg16, hg17, hg18, hg19, hg20, hg21, hg22]; rfl) Sub.nil)))))) rfl
                                              · skip
                                                refine At.set (d := 119) (u := .bool false) rfl (congrArg Value.bool hg22) ?_
                                                have hg22' := of_decide_eq_false hg22
                                                refine At.yes rfl rfl rfl rfl ?_
                                                refine At.move rfl rfl ?_
                                                refine At.yes rfl rfl rfl rfl ?_
                                                refine At.eqI rfl rfl rfl ?_
                                                refine At.pickF rfl rfl rfl ?_
                                                refine At.assign rfl rfl ?_
                                                exact At.joined (Sub.cons rfl (Sub.cons rfl (Sub.cons rfl (Sub.cons rfl (Sub.cons rfl (Sub.cons (by show some (Value.bool (decide ((c.toNat : Int) = 127))) = some (Value.bool (((((((((((((((((((((decide (128 ≤ (c.toNat : Int)) || decide ((c.toNat : Int) = 36)) || decide ((c.toNat : Int) = 34)) || decide ((c.toNat : Int) = 37)) || decide ((c.toNat : Int) = 38)) || decide ((c.toNat : Int) = 39)) || decide ((c.toNat : Int) = 46)) || decide ((c.toNat : Int) = 62)) || decide ((c.toNat : Int) = 63)) || decide ((c.toNat : Int) = 64)) || decide ((c.toNat : Int) = 91)) || decide ((c.toNat : Int) = 92)) || decide ((c.toNat : Int) = 93)) || decide ((c.toNat : Int) = 94)) || decide ((c.toNat : Int) = 96)) || decide ((c.toNat : Int) = 124)) || decide ((c.toNat : Int) = 126)) || decide ((c.toNat : Int) < 9)) || decide ((c.toNat : Int) = 11)) || decide ((c.toNat : Int) = 12)) || (decide (13 < (c.toNat : Int)) && decide ((c.toNat : Int) < 32))) || decide ((c.toNat : Int) = 127))); rw [hg1, hg2, hg3, hg4, hg5, hg6, hg7, hg8, hg9, hg10, hg11, hg12, hg13, hg14, hg15, hg16, hg17, hg18, hg19, hg20, hg21, hg22]; rfl) Sub.nil)))))) rfl
                                            · skip
                                              refine At.set (d := 114) (u := .bool false) rfl (congrArg Value.bool hg21) ?_
                                              have hg21' := of_decide_eq_false hg21
                                              refine At.no rfl rfl rfl rfl rfl rfl rfl ?_
                                              refine At.no rfl rfl rfl rfl rfl rfl rfl ?_
                                              refine At.yes rfl rfl rfl rfl ?_
                                              refine At.pickF rfl rfl rfl ?_
                                              refine At.pickF rfl rfl rfl ?_
                                              refine At.move rfl rfl ?_
                                              refine At.yes rfl rfl rfl rfl ?_
                                              refine At.move rfl rfl ?_
                                              refine At.yes rfl rfl rfl rfl ?_
                                              refine At.eqI rfl rfl rfl ?_
                                              refine At.pickF rfl rfl rfl ?_
                                              refine At.assign rfl rfl ?_
                                              exact At.joined (Sub.cons rfl (Sub.cons rfl (Sub.cons rfl (Sub.cons rfl (Sub.cons rfl (Sub.cons (by show some (Value.bool (decide ((c.toNat : Int) = 127))) = some (Value.bool (((((((((((((((((((((decide (128 ≤ (c.toNat : Int)) || decide ((c.toNat : Int) = 36)) || decide ((c.toNat : Int) = 34)) || decide ((c.toNat : Int) = 37)) || decide ((c.toNat : Int) = 38)) || decide ((c.toNat : Int) = 39)) || decide ((c.toNat : Int) = 46)) || decide ((c.toNat : Int) = 62)) || decide ((c.toNat : Int) = 63)) || decide ((c.toNat : Int) = 64)) || decide ((c.toNat : Int) = 91)) || decide ((c.toNat : Int) = 92)) || decide ((c.toNat : Int) = 93)) || decide ((c.toNat : Int) = 94)) || decide ((c.toNat : Int) = 96)) || decide ((c.toNat : Int) = 124)) || decide ((c.toNat : Int) = 126)) || decide ((c.toNat : Int) < 9)) || decide ((c.toNat : Int) = 11)) || decide ((c.toNat : Int) = 12)) || (decide (13 < (c.toNat : Int)) && decide ((c.toNat : Int) < 32))) || decide ((c.toNat : Int) = 127))); rw [hg1, hg2, hg3, hg4, hg5, hg6, hg7, hg8, hg9, hg10, hg11, hg12, hg13, hg14, hg15, hg16, hg17, hg18, hg19, hg20, hg21]; rfl) Sub.nil)))))) rfl
  · skip
    subst hS
    refine At.thenN ?_
    refine At.seq ?_
    refine At.seq ?_
    refine At.region ?_
    refine At.move rfl rfl ?_
    refine At.neI rfl rfl rfl ?_
    refine At.move rfl rfl ?_
    refine At.cases ((!decide ((lexE S1) = 0))) (fun hg23 => ?_) (fun hg23 => ?_)
    · skip
      refine At.set (d := 125) (u := .bool true) rfl (congrArg Value.bool hg23) ?_
      have hg23' := hg23; simp only [Bool.not_eq_true', Bool.not_eq_false', decide_eq_true_eq, decide_eq_false_iff_not] at hg23'
      refine At.no rfl rfl rfl rfl rfl rfl rfl ?_
      refine At.no rfl rfl rfl rfl rfl rfl rfl ?_
      refine At.pickT rfl rfl rfl ?_
      refine At.ops0 ?_
      refine At.thenN ?_
      refine At.condT rfl ?_
      refine At.seq ?_
      refine At.region ?_
      refine At.move rfl rfl ?_
      refine At.assign rfl rfl ?_
      refine At.ops0 ?_
      refine At.thenN ?_
      refine At.retc ?_
      refine At.thenR ?_
      refine At.doneR (ResV.tmp rfl ResV.nil) ?_
      exact ⟨rfl, hB⟩
    · skip
      refine At.set (d := 125) (u := .bool false) rfl (congrArg Value.bool hg23) ?_
      have hg23' := hg23; simp only [Bool.not_eq_true', Bool.not_eq_false', decide_eq_true_eq, decide_eq_false_iff_not] at hg23'
      refine At.yes rfl rfl rfl rfl ?_
      refine At.move rfl rfl ?_
      refine At.yes rfl rfl rfl rfl ?_
      refine At.not rfl rfl ?_
      refine At.pickF rfl rfl rfl ?_
      refine At.ops0 ?_
      refine At.thenN ?_
      refine At.cond (b := (!(((((((((((((((((((((decide (128 ≤ (c.toNat : Int)) || decide ((c.toNat : Int) = 36)) || decide ((c.toNat : Int) = 34)) || decide ((c.toNat : Int) = 37)) || decide ((c.toNat : Int) = 38)) || decide ((c.toNat : Int) = 39)) || decide ((c.toNat : Int) = 46)) || decide ((c.toNat : Int) = 62)) || decide ((c.toNat : Int) = 63)) || decide ((c.toNat : Int) = 64)) || decide ((c.toNat : Int) = 91)) || decide ((c.toNat : Int) = 92)) || decide ((c.toNat : Int) = 93)) || decide ((c.toNat : Int) = 94)) || decide ((c.toNat : Int) = 96)) || decide ((c.toNat : Int) = 124)) || decide ((c.toNat : Int) = 126)) || decide ((c.toNat : Int) < 9)) || decide ((c.toNat : Int) = 11)) || decide ((c.toNat : Int) = 12)) || (decide (13 < (c.toNat : Int)) && decide ((c.toNat : Int) < 32))) || decide ((c.toNat : Int) = 127)))) rfl (fun hc1 => ?_) (fun hc1 => ?_)
      · skip
        refine At.seq ?_
        refine At.region ?_
        refine At.move rfl rfl ?_
        refine At.assign rfl rfl ?_
        refine At.ops0 ?_
        refine At.thenN ?_
        refine At.retc ?_
        refine At.thenR ?_
        refine At.doneR (ResV.tmp rfl ResV.nil) ?_
        exact ⟨rfl, hB⟩
      · skip
        refine At.skip ?_
        refine At.thenN ?_
        refine At.seq ?_
        have hbad : badB c = true := by have q := hc1; rw [Bool.not_eq_false'] at q; exact q
        have hW := words_of (l := S1) (by simpa using hg23)
        have hq := lex_first hW.lex hbad S2
        refine At.region ?_
        refine At.move rfl rfl ?_
        refine At.ofBytes (l := S1) rfl (BytesAt.keep (BytesAt.eqL (BytesAt.take hv hle1) hS1) hB) el22 ik5 st9 rfl ?_
        refine At.catB (a := S1) (b := ([10] : List UInt8)) rfl rfl rfl (by simp only [List.length_append, List.length_cons, List.length_nil]; omega) ?_
        refine At.move rfl rfl ?_
        refine At.buildSlice (xs := [.tmp 133]) rfl rfl el22 sz5 ze5 (by intro v hv; simp only [List.mem_cons, List.not_mem_nil, or_false] at hv; rcases hv with rfl <;> first | rfl | simp [Value.cells, Value.cells]) rfl (by decide) rfl (fun b1 w4 F1 => ?_)
        have gb1 := F1.ge hB
        replace hO1 := hO1.fresh F1
        have hb1 : w4.heap[b1]? = some (.cells #[.int .u8 (c.toNat : Int)] 5) := F1.new
        replace hB := F1.below' hB
        refine At.convB (xs := [(c.toNat : Int)]) rfl hb1 rfl el22 ik5 st9 rfl ?_
        refine At.set (d := 135) (u := .string (bs [c])) rfl (congrArg Value.string (strOf_bs [c])) ?_
        refine At.catB (a := (S1 ++ ([10] : List UInt8))) (b := [c]) rfl rfl rfl (by simp only [List.length_append, List.length_cons, List.length_nil]; omega) ?_
        refine At.move rfl rfl ?_
        refine At.ofBytes (l := S2) rfl (BytesAt.keep (BytesAt.eqL (BytesAt.take hv2 hle2) hS2) hB) el22 ik5 st9 rfl ?_
        refine At.catB (a := ((S1 ++ ([10] : List UInt8)) ++ [c])) (b := S2) rfl rfl rfl (by simp only [List.length_append, List.length_cons, List.length_nil]; omega) ?_
        refine At.assign rfl rfl ?_
        refine At.ops0 ?_
        refine At.thenN ?_
        refine At.seq ?_
        refine At.region ?_
        refine At.move rfl rfl ?_
        refine At.toBytes (l := (((S1 ++ ([10] : List UInt8)) ++ [c]) ++ S2)) rfl st9 el22 ik5 (by simp only [List.length_append, List.length_cons, List.length_nil]; omega) rfl (fun b2 cap1 w5 hgbb1 hbl3 hby1 => ?_)
        replace hb1 := Below.old hbl3 hb1
        replace hO1 := hO1.below hbl3
        replace hB := Below.andThen hB hbl3
        refine At.call en11 rfl rfl (lex_to (.slice (some ⟨b2, 0, none⟩) (((S1 ++ ([10] : List UInt8)) ++ [c]) ++ S2).length cap1) (((S1 ++ ([10] : List UInt8)) ++ [c]) ++ S2) m _ ([]) (S1.length + 1 : Nat) 2 (lex_bad (by simp only [List.length_append, List.length_cons, List.length_nil]; omega) hq) (BytesAt.keep hby1 (Below.refl _ _)) (cell_keep hm hB)) (fun e w6 hR => ?_)
        obtain ⟨vt2, rfl, hbl4, hO2, ghO2⟩ := hR
        refine ⟨_, rfl, ?_⟩
        replace ghO2 : ∀ g, Value.ownBlock vt2 = some g → w.heap.size ≤ g := fun g h => Nat.le_trans hB.size (ghO2 g h)
        replace hb1 := Below.old hbl4 hb1
        replace hO1 := hO1.below hbl4
        replace hby1 := hby1.below hbl4
        replace hB := Below.andThen hB hbl4
        refine At.move rfl rfl ?_
        refine At.extract rfl rfl rfl ?_
        refine At.extract rfl rfl rfl ?_
        refine At.extract rfl rfl rfl ?_
        refine At.assign rfl rfl ?_
        refine At.assign rfl rfl ?_
        refine At.assign rfl rfl ?_
        refine At.ops0 ?_
        refine At.thenN ?_
        refine At.seq ?_
        refine At.region ?_
        refine At.move rfl rfl ?_
        refine At.move rfl rfl ?_
        refine At.yes rfl rfl rfl rfl ?_
        refine At.move rfl rfl ?_
        refine At.yes rfl rfl rfl rfl ?_
        refine At.eqI rfl rfl rfl ?_
        refine At.pickT rfl rfl rfl ?_
        refine At.move rfl rfl ?_
        have hbb1 : (decide (2 = 2)) = true := by decide
        refine At.set (d := 152) (u := .bool true) rfl (congrArg Value.bool hbb1) ?_
        refine At.yes rfl rfl rfl rfl ?_
        refine At.move rfl rfl ?_
        refine At.yes rfl rfl rfl rfl ?_
        refine At.move rfl rfl ?_
        refine At.yes rfl rfl rfl rfl ?_
        refine At.lenSl rfl (BytesAt.ok (BytesAt.eqL (BytesAt.take hv hle1) hS1)) el22 rfl ?_
        refine At.yes rfl rfl rfl rfl ?_
        refine At.addI rfl rfl rfl (by omega) ?_
        refine At.yes rfl rfl rfl rfl ?_
        refine At.eqI rfl rfl rfl ?_
        refine At.pickT rfl rfl rfl ?_
        refine At.move rfl rfl ?_
        have hbb2 : (decide (((S1.length + 1 : Nat) : Int) = ((S1.length : Int) + 1))) = true := decide_eq_true (by omega)
        refine At.set (d := 159) (u := .bool true) rfl (congrArg Value.bool hbb2) ?_
        refine At.yes rfl rfl rfl rfl ?_
        refine At.move rfl rfl ?_
        refine At.yes rfl rfl rfl rfl ?_
        refine At.lenSl rfl (Own.slOk hO2) el24 rfl ?_
        refine At.yes rfl rfl rfl rfl ?_
        refine At.eqI rfl rfl rfl ?_
        refine At.pickT rfl rfl rfl ?_
        refine At.assign rfl rfl ?_
        refine At.ops0 ?_
        refine At.thenN ?_
        refine At.retc ?_
        refine At.doneR (ResV.tmp rfl ResV.nil) ?_
        exact ⟨congrArg Ending.returned (congrArg Value.bool (show (decide (0 = 0)) = true from by decide)), hB⟩
end Go.Proofs.Ytkalnkedpiemaaa
