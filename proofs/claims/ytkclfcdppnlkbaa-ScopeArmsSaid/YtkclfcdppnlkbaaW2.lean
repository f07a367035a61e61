/-
  The walks of what may not stand twice and of a match's arms: what each call does, for every argument that lies so in memory. Written by a program of ours.
-/
import Derived.Test.YtkclfcdppnlkbaaW1
import Derived.Test.YtkclfcdppnlkbaaD2
set_option linter.unusedVariables false
set_option linter.unusedSimpArgs false
namespace Go.Proofs.Ytkclfcdppnlkbaa
open Go.RowKit
theorem ag27 : aggB Try.prog 27 = some false := by kernel_rfl
theorem by9 : bytesB Try.prog 9 = some 16 := by kernel_rfl
theorem en39 : entB Try.prog 39 = true := by kernel_rfl
theorem en50 : entB Try.prog 50 = true := by kernel_rfl
theorem en64 : entB Try.prog 64 = true := by kernel_rfl
theorem fo87_0 : fieldB Try.prog 87 0 = some (0, 1) := by kernel_rfl
theorem sz27 : sizeB Try.prog 27 = some 1 := by kernel_rfl
theorem ze9 : zeroB Try.prog 9 = some (.string (⟨#[]⟩ : ByteArray)) := by kernel_rfl
theorem fresh_any (b0 : Nat) (v : Value) (ss : List ByteArray) (s : ByteArray) (w : World) (hb0 : w.heap[b0]? = some (.cells #[v] 87)) (hO : OwnS 9 w v ss) (hl : ss.length ≤ 4398046511104) :
    Calls Try.prog 39 ([.pointer (some ⟨b0, 0, none⟩), .string s] : List Value).toArray w fun e w' => ∃ v', e = .returned (.bool (!memB s ss)) ∧ w'.heap[b0]? = some (.cells #[v'] 87) ∧ OwnS 9 w' v' (ss ++ [s]) ∧ Fr (fun k => k = b0 ∨ some k = v.ownBlock) w w' ∧ Moved w v v' := by
  have hR := Fr.refl (fun k => k = b0 ∨ some k = v.ownBlock) w
  refine At.enter (N := 24) Try.func39 rfl rfl (by simp) [(0, .pointer (some ⟨b0, 0, none⟩)), (1, .string s)] (by simp) ?_
  refine At.seq ?_
  refine At.region ?_
  refine At.assign rfl rfl ?_
  refine At.ops0 ?_
  refine At.thenN ?_
  refine At.seq ?_
  refine At.region ?_
  refine At.move rfl rfl ?_
  refine At.nilCheck rfl rfl ?_
  refine At.fieldAddr rfl fo87_0 rfl ?_
  refine At.load rfl (Ld.ownCell ag27 hb0 rfl) rfl ?_
  refine At.move rfl rfl ?_
  refine At.call en50 rfl rfl (contains_any v ss s _ ((hO.strs).keep (Below.refl _ _)) (by omega)) (fun e w' hR => ?_)
  obtain ⟨rfl, rfl⟩ := hR
  refine ⟨_, rfl, ?_⟩
  refine At.assign rfl rfl ?_
  refine At.ops0 ?_
  refine At.thenN ?_
  refine At.seq ?_
  refine At.region ?_
  refine At.move rfl rfl ?_
  refine At.move rfl rfl ?_
  refine At.nilCheck rfl rfl ?_
  refine At.fieldAddr rfl fo87_0 rfl ?_
  refine At.load rfl (Ld.ownCell ag27 hb0 rfl) rfl ?_
  refine At.move rfl rfl ?_
  refine At.buildSlice (xs := [.tmp 17]) rfl rfl el27 sz9 ze9 (by intro v hv; simp only [List.mem_cons, List.not_mem_nil, or_false] at hv; rcases hv with rfl <;> first | rfl | simp [Value.cells, Value.cells]) rfl (by decide) rfl (fun b1 w1 F1 => ?_)
  have n_b0_b1 : b0 ≠ b1 := Nat.ne_of_lt (F1.lt hb0)
  have gb1 := Nat.le_trans hR.size (Nat.le_of_eq F1.eq.symm)
  replace hb0 := F1.old hb0
  replace hO := hO.fresh F1
  have hb1 : w1.heap[b1]? = some (.cells #[.string s] 9) := F1.new
  replace hR := hR.freshF F1
  have hs1 : StrsAt w1 (.slice (some ⟨b1, 0, none⟩) 1 1) [s] := StrsAt.own (ss := [s]) hb1 rfl (by decide)
  refine At.appendS (ss := ss) rfl rfl el27 el27 sz9 by9 ze9 rfl hO (hs1) (by simp; omega) rfl (fun va1 w2 hO1 hA1 => ?_)
  replace hb0 := hA1.old hb0 (hO.neT hb0 rfl)
  clear hb1
  replace hR := hR.appF hA1 (fun g hg => .inl (.inr hg.symm))
  refine At.nilCheck rfl rfl ?_
  refine At.fieldAddr rfl fo87_0 rfl ?_
  refine At.store1 rfl rfl hb0 sz27 (by simp) ((hO1.strs).ok).one (fun w3 S1 => ?_)
  replace hO1 := hO1.set S1 (hO1.neT hb0 rfl)
  replace hb0 : w3.heap[b0]? = some (.cells #[va1] 87) := S1.new
  replace hR := hR.setF S1 (.inl (.inl rfl))
  refine At.ops0 ?_
  refine At.thenN ?_
  refine At.seq ?_
  refine At.region ?_
  refine At.move rfl rfl ?_
  refine At.not rfl rfl ?_
  refine At.assign rfl rfl ?_
  refine At.ops0 ?_
  refine At.thenN ?_
  refine At.retc ?_
  refine At.doneR (ResV.tmp rfl ResV.nil) ?_
  exact ⟨va1, rfl, hb0, hO1, hR, by rcases hA1.blk with h | ⟨q, h1, h2⟩; exact .inl h; exact .inr ⟨q, h1, by have := F1.size; have := F1.eq; omega⟩⟩
theorem twice1_any (s : ByteArray) (b0 : Nat) (v : Value) (ss : List ByteArray) (w : World) (hb0 : w.heap[b0]? = some (.cells #[v] 87)) (hO : OwnS 9 w v ss) (hl : ss.length ≤ 4398046511104) :
    Calls Try.prog 64 ([.string s, .pointer (some ⟨b0, 0, none⟩)] : List Value).toArray w fun e w' => ∃ v', e = .returned (.bool ((!decide (s = ⟨#[95]⟩)) && memB s ss)) ∧ w'.heap[b0]? = some (.cells #[v'] 87) ∧ OwnS 9 w' v' (accN ss s) ∧ Fr (fun k => k = b0 ∨ some k = v.ownBlock) w w' ∧ Moved w v v' := by
  have hR := Fr.refl (fun k => k = b0 ∨ some k = v.ownBlock) w
  refine At.enter (N := 11) Try.func64 rfl rfl (by simp) [(0, .string s), (1, .pointer (some ⟨b0, 0, none⟩))] (by simp) ?_
  refine At.seq ?_
  refine At.region ?_
  refine At.assign rfl rfl ?_
  refine At.ops0 ?_
  refine At.thenN ?_
  refine At.seq ?_
  refine At.region ?_
  refine At.move rfl rfl ?_
  refine At.neS rfl rfl rfl ?_
  refine At.move rfl rfl ?_
  refine At.cases ((!decide (s = (⟨#[95]⟩ : ByteArray)))) (fun hg1 => ?_) (fun hg1 => ?_)
  · skip
    refine At.set (d := 6) (u := .bool true) rfl (congrArg Value.bool hg1) ?_
    have hg1' := hg1; simp only [Bool.not_eq_true', Bool.not_eq_false', decide_eq_true_eq, decide_eq_false_iff_not] at hg1'
    refine At.yes rfl rfl rfl rfl ?_
    refine At.move rfl rfl ?_
    refine At.yes rfl rfl rfl rfl ?_
    refine At.call en39 rfl rfl (fresh_any b0 v ss s _ hb0 hO (by omega)) (fun e w1 hR' => ?_)
    obtain ⟨va1, rfl, hb0', hO1, hF1, hM1⟩ := hR'
    refine ⟨_, rfl, ?_⟩
    replace hb0 := hb0'
    replace hR := Fr.then hR hF1 (fun k hk => .inl hk)
    refine At.yes rfl rfl rfl rfl ?_
    refine At.not rfl rfl ?_
    refine At.pickT rfl rfl rfl ?_
    refine At.assign rfl rfl ?_
    refine At.ops0 ?_
    refine At.thenN ?_
    refine At.retc ?_
    refine At.doneR (ResV.tmp rfl ResV.nil) ?_
    exact ⟨va1, by rw [hg1]; simp [resOf], hb0, by rw [accN, hg1]; exact hO1, hR, hM1⟩
  · skip
    refine At.set (d := 6) (u := .bool false) rfl (congrArg Value.bool hg1) ?_
    have hg1' := hg1; simp only [Bool.not_eq_true', Bool.not_eq_false', decide_eq_true_eq, decide_eq_false_iff_not] at hg1'
    refine At.no rfl rfl rfl rfl rfl rfl rfl ?_
    refine At.no rfl rfl rfl rfl rfl rfl rfl ?_
    refine At.no rfl rfl rfl rfl rfl rfl rfl ?_
    refine At.pickF rfl rfl rfl ?_
    refine At.assign rfl rfl ?_
    refine At.ops0 ?_
    refine At.thenN ?_
    refine At.retc ?_
    refine At.doneR (ResV.tmp rfl ResV.nil) ?_
    exact ⟨v, by rw [hg1]; rfl, hb0, by rw [accN, hg1]; exact hO, hR, .inl rfl⟩
theorem indexTwice_any (vl : Value) (l : List ByteArray) (b0 : Nat) (w0 : World) (w : World) (hB0 : Below w0.heap.size w0 w) (hSge : ∀ k, k = b0 → w0.heap.size ≤ k) (hv : StrsAt w0 vl l) (hb0 : w.heap[b0]? = some (.cells #[.slice none 0 0] 87)) (hl : l.length ≤ 4398046511104) :
    Calls Try.prog 67 ([vl, .func (.func 64) #[] #[.pointer (some ⟨b0, 0, none⟩)]] : List Value).toArray w fun e w' => ∃ r : Int, e = .returned (.int .i64 r) ∧ decide (0 ≤ r) = twiceFrom [] l ∧ Fr (fun k => k = b0) w w' := by
  have hR := Fr.refl (fun k => k = b0) w
  have hB := hB0
  refine At.enter (N := 19) Try.func67 rfl rfl (by simp) [(0, vl), (1, .func (.func 64) #[] #[.pointer (some ⟨b0, 0, none⟩)])] (by simp) ?_
  refine At.seq ?_
  refine At.region ?_
  refine At.assign rfl rfl ?_
  refine At.ops0 ?_
  refine At.thenN ?_
  refine At.seq ?_
  refine At.seq ?_
  refine At.region ?_
  refine At.move rfl rfl ?_
  refine At.lenSl rfl hv.ok el27 rfl ?_
  refine At.move rfl rfl ?_
  refine At.ops0 ?_
  refine At.thenN ?_
  refine At.block ?_
  refine At.loop (Nat × Value) (fun (k, v') => [(0, vl), (1, .func (.func 64) #[] #[.pointer (some ⟨b0, 0, none⟩)]), (7, .int .i64 (l.length : Int)), (8, .int .i64 (k : Int))]) (fun (k, v') w1 => Fr (fun k => k = b0) w w1 ∧ w1.heap[b0]? = some (.cells #[v'] 87) ∧ OwnS 9 w1 v' ((l.take k).foldl accN []) ∧ (∀ g, v'.ownBlock = some g → w.heap.size ≤ g) ∧ (k ≤ l.length) ∧ (twiceFrom ((l.take k).foldl accN []) (l.drop k) = twiceFrom [] l)) (fun (k, v') => l.length - k) (0, .slice none 0 0) (Sub.cons rfl (Sub.cons rfl (Sub.cons rfl (Sub.cons rfl Sub.nil)))) ⟨hR, hb0, OwnS.nil 9 _, (fun g h => by cases h), (Nat.zero_le _), (rfl)⟩ (fun gh w1 hI => ?_)
  obtain ⟨k, v'⟩ := gh
  clear hR hB hb0
  obtain ⟨hR, hb0, hO, gO, hkb, hn⟩ := hI
  have hB := Fr.below hR hB0 hB0.size hSge
  show At _ _ [(0, vl), (1, .func (.func 64) #[] #[.pointer (some ⟨b0, 0, none⟩)]), (7, .int .i64 (l.length : Int)), (8, .int .i64 (k : Int))] _ _
  refine At.seq ?_
  refine At.region ?_
  refine At.lss rfl rfl rfl ?_
  refine At.ops0 ?_
  refine At.thenN ?_
  refine At.seq ?_
  refine At.cond (b := decide ((k : Int) < (l.length : Int))) rfl (fun hc1 => ?_) (fun hc1 => ?_)
  · skip
    have hc1' := of_decide_eq_true hc1
    refine At.skip ?_
    refine At.thenN ?_
    refine At.seq ?_
    refine At.block ?_
    refine At.seq ?_
    refine At.region ?_
    refine At.move rfl rfl ?_
    refine At.assign rfl rfl ?_
    refine At.ops0 ?_
    refine At.thenN ?_
    refine At.seq ?_
    refine At.region ?_
    refine At.move rfl rfl ?_
    refine At.move rfl rfl ?_
    refine At.move rfl rfl ?_
    obtain ⟨u1, hu1⟩ := some_of_lt (l := l) (i := k) (by omega)
    refine At.indexAddr (i := k) rfl rfl hv.ok (lt_of_some hu1) el27 sz9 rfl ?_
    refine At.load rfl (Ld.cell ag9 (cell_keep ((hv).get hu1) hB)) rfl ?_
    refine At.callV rfl en64 rfl rfl (twice1_any u1 b0 v' ((l.take k).foldl accN []) _ hb0 hO (by have := accLen (l.take k); simp only [List.length_take] at this; omega)) (fun e w2 hR' => ?_)
    obtain ⟨va1, rfl, hb0', hO1, hF1, hM1⟩ := hR'
    refine ⟨_, rfl, ?_⟩
    replace hb0 := hb0'
    have ghO1 := hM1.ge hR.size gO
    replace hR := Fr.then hR hF1 (fun k hk => hk.elim (fun e => .inl e) (fun e => .inr (gO _ e.symm)))
    replace hB := Fr.below hR hB0 hB0.size hSge
    refine At.ops0 ?_
    refine At.thenN ?_
    refine At.cond (b := ((!decide (u1 = ⟨#[95]⟩)) && memB u1 ((l.take k).foldl accN []))) rfl (fun hc2 => ?_) (fun hc2 => ?_)
    · skip
      refine At.seq ?_
      refine At.region ?_
      refine At.move rfl rfl ?_
      refine At.assign rfl rfl ?_
      refine At.ops0 ?_
      refine At.thenN ?_
      refine At.retc ?_
      refine At.inR ?_
      refine At.thenR ?_
      refine At.thenR ?_
      refine At.inR ?_
      refine At.thenR ?_
      refine At.doneR (ResV.tmp rfl ResV.nil) ?_
      exact ⟨_, rfl, by rw [← hn, twice_yes hu1 hc2]; simp, hR⟩
    · skip
      refine At.skip ?_
      refine At.inN ?_
      refine At.thenN ?_
      refine At.region ?_
      refine At.addI rfl rfl rfl (by omega) ?_
      refine At.move rfl rfl ?_
      refine At.ops0 ?_
      refine At.thenN ?_
      exact fun a ha => ⟨((k + 1), va1), ha.sub (Sub.cons rfl (Sub.cons rfl (Sub.cons rfl (Sub.cons rfl Sub.nil)))), ⟨hR, hb0, acc_snoc hu1 ▸ hO1, (ghO1), (by omega), (by rw [acc_snoc hu1, ← hn, twice_no hu1 hc2])⟩, by first | omega | (dsimp only; omega)⟩
  · skip
    have hc1' := of_decide_eq_false hc1
    refine At.exit ?_
    refine At.thenE ?_
    refine At.thenE ?_
    refine At.inE ?_
    refine At.thenN ?_
    refine At.seq ?_
    refine At.region ?_
    refine At.assign rfl rfl ?_
    refine At.ops0 ?_
    refine At.thenN ?_
    refine At.retc ?_
    refine At.doneR (ResV.tmp rfl ResV.nil) ?_
    exact ⟨-1, rfl, by rw [← hn, List.drop_eq_nil_of_le (by omega)]; rfl, hR⟩
end Go.Proofs.Ytkclfcdppnlkbaa
