/-
  The walks of the terms' check, and of Check: what each call does, for every argument that lies so in memory. Written by a program of ours.
-/
import Derived.Test.YtkclfcdppnlkbaaW4
import Derived.Test.YtkclfcdppnlkbaaS3
set_option linter.unusedVariables false
set_option linter.unusedSimpArgs false
namespace Go.Proofs.Ytkclfcdppnlkbaa
open Go.RowKit
theorem ag24 : aggB Try.prog 24 = some false := by kernel_rfl
theorem ag33 : aggB Try.prog 33 = some true := by kernel_rfl
theorem el110 : elemB Try.prog 110 = some 27 := by kernel_rfl
theorem el24 : elemB Try.prog 24 = some 33 := by kernel_rfl
theorem en14 : entB Try.prog 14 = true := by kernel_rfl
theorem en20 : entB Try.prog 20 = true := by kernel_rfl
theorem en26 : entB Try.prog 26 = true := by kernel_rfl
theorem en27 : entB Try.prog 27 = true := by kernel_rfl
theorem en28 : entB Try.prog 28 = true := by kernel_rfl
theorem en41 : entB Try.prog 41 = true := by kernel_rfl
theorem en42 : entB Try.prog 42 = true := by kernel_rfl
theorem en43 : entB Try.prog 43 = true := by kernel_rfl
theorem en53 : entB Try.prog 53 = true := by kernel_rfl
theorem en54 : entB Try.prog 54 = true := by kernel_rfl
theorem en55 : entB Try.prog 55 = true := by kernel_rfl
theorem en65 : entB Try.prog 65 = true := by kernel_rfl
theorem fo33_0 : fieldB Try.prog 33 0 = some (0, 1) := by kernel_rfl
theorem fo33_1 : fieldB Try.prog 33 1 = some (1, 1) := by kernel_rfl
theorem fo33_3 : fieldB Try.prog 33 3 = some (3, 1) := by kernel_rfl
theorem fo33_5 : fieldB Try.prog 33 5 = some (5, 1) := by kernel_rfl
theorem fo35_2 : fieldB Try.prog 35 2 = some (2, 21) := by kernel_rfl
theorem fo71_2 : fieldB Try.prog 71 2 = some (2, 21) := by kernel_rfl
theorem sd75 : sizedB Try.prog 75 = true := by kernel_rfl
theorem sz33 : sizeB Try.prog 33 = some 21 := by kernel_rfl
theorem ze27 : zeroB Try.prog 27 = some ((.slice none 0 0)) := by kernel_rfl
theorem ze33 : zeroB Try.prog 33 = some (.agg #[.int .i64 0, .int .i64 0, .string (⟨#[]⟩ : ByteArray), .string (⟨#[]⟩ : ByteArray), .int .i64 0, (.slice none 0 0), (.slice none 0 0), .int .i64 0, .string (⟨#[]⟩ : ByteArray), .int .i64 0, (.slice none 0 0), (.slice none 0 0), .int .i64 0, (.slice none 0 0), .int .i64 0, .int .i64 0, .string (⟨#[]⟩ : ByteArray), .int .i64 0, (.slice none 0 0), (.slice none 0 0), .int .i64 0]) := by kernel_rfl
theorem ze75 : zeroB Try.prog 75 = some (.agg #[(.slice none 0 0), (.slice none 0 0), .int .i64 0, .int .i64 0, .string (⟨#[]⟩ : ByteArray), .string (⟨#[]⟩ : ByteArray), .int .i64 0, (.slice none 0 0), (.slice none 0 0), .int .i64 0, .string (⟨#[]⟩ : ByteArray), .int .i64 0, (.slice none 0 0), (.slice none 0 0), .int .i64 0, (.slice none 0 0), .int .i64 0, .int .i64 0, .string (⟨#[]⟩ : ByteArray), .int .i64 0, (.slice none 0 0), (.slice none 0 0), .int .i64 0]) := by kernel_rfl
theorem grow_any (n : Nat) (w : World) (hn : n ≤ 8796093022208) :
    Calls Try.prog 65 ([(.slice none 0 0), .int .i64 (n : Int)] : List Value).toArray w fun e w' => ∃ v', e = .returned v' ∧ OwnS 9 w' v' [] ∧ Below w.heap.size w w' ∧ ∀ g, v'.ownBlock = some g → w.heap.size ≤ g := by
  have hB := Below.refl w.heap.size w
  refine At.enter (N := 27) Try.func65 rfl rfl (by simp) [(0, (.slice none 0 0)), (1, .int .i64 (n : Int))] (by simp) ?_
  refine At.seq ?_
  refine At.region ?_
  refine At.assign rfl rfl ?_
  refine At.ops0 ?_
  refine At.thenN ?_
  refine At.seq ?_
  refine At.seq ?_
  refine At.region ?_
  refine At.move rfl rfl ?_
  refine At.lss rfl rfl rfl ?_
  refine At.ops0 ?_
  refine At.thenN ?_
  have hb : (decide ((n : Int) < 0)) = false := (decide_eq_false (by omega))
  refine At.set (d := 6) (u := .bool false) rfl (congrArg Value.bool hb) ?_
  refine At.condF rfl ?_
  refine At.skip ?_
  refine At.thenN ?_
  refine At.seq ?_
  refine At.seq ?_
  refine At.region ?_
  refine At.move rfl rfl ?_
  refine At.move rfl rfl ?_
  refine At.capNil rfl el27 rfl ?_
  refine At.move rfl rfl ?_
  refine At.lenSl rfl SlOk.nil el27 rfl ?_
  refine At.subI rfl rfl rfl (by omega) ?_
  refine At.subI rfl rfl rfl (by omega) ?_
  refine At.assign rfl rfl ?_
  refine At.ops0 ?_
  refine At.thenN ?_
  refine At.seq ?_
  refine At.set (d := 1) (u := .int .i64 (n : Int)) rfl (congrArg (Value.int .i64) (by omega)) ?_
  refine At.region ?_
  refine At.move rfl rfl ?_
  refine At.gtr rfl rfl rfl ?_
  refine At.ops0 ?_
  refine At.thenN ?_
  refine At.cond (b := decide (0 < (n : Int))) rfl (fun hc1 => ?_) (fun hc1 => ?_)
  · skip
    have hc1' := of_decide_eq_true hc1
    refine At.region ?_
    refine At.move rfl rfl ?_
    refine At.move rfl rfl ?_
    refine At.capNil rfl el27 rfl ?_
    refine At.sliceHi (h := 0) rfl rfl el27 sz9 (Nat.zero_le _) rfl ?_
    refine At.set (d := 20) (u := .slice none 0 0) rfl rfl ?_
    refine At.move rfl rfl ?_
    refine At.appendZ (n := n) (kn := .i64) rfl rfl el27 (by kernel_rfl) sz9 by9 ze9 rfl (by omega) (by omega) rfl (fun b1 c1 w1 hc2 hO1 hA1 => ?_)
    have ghO1 : ∀ g, Value.ownBlock (.slice (some ⟨b1, 0, none⟩) 0 c1) = some g → w.heap.size ≤ g := hA1.ge hB.size (fun g h => by cases h)
    replace hB := hA1.below hB hB.size (fun g h => by cases h)
    refine At.move rfl rfl ?_
    refine At.lenSl rfl SlOk.nil el27 rfl ?_
    refine At.sliceHi (h := 0) rfl rfl el27 sz9 (Nat.zero_le _) rfl ?_
    refine At.set (d := 25) (u := (.slice (some ⟨b1, 0, none⟩) 0 c1)) rfl (by rw [if_neg (by omega)]; rfl) ?_
    refine At.assign rfl rfl ?_
    refine At.ops0 ?_
    refine At.thenN ?_
    refine At.seq ?_
    refine At.region ?_
    refine At.move rfl rfl ?_
    refine At.assign rfl rfl ?_
    refine At.ops0 ?_
    refine At.thenN ?_
    refine At.retc ?_
    refine At.doneR (ResV.tmp rfl ResV.nil) ?_
    exact ⟨_, rfl, hO1, hB, ghO1⟩
  · skip
    have hc1' := of_decide_eq_false hc1
    refine At.skip ?_
    refine At.thenN ?_
    refine At.seq ?_
    refine At.region ?_
    refine At.move rfl rfl ?_
    refine At.assign rfl rfl ?_
    refine At.ops0 ?_
    refine At.thenN ?_
    refine At.retc ?_
    refine At.doneR (ResV.tmp rfl ResV.nil) ?_
    exact ⟨_, rfl, OwnS.nil _ _, hB, fun g h => by cases h⟩
theorem concat_any (v : Value) (ls : List Sq) (w : World) (hv : RowsAt w v 1 (ls.map Sq.cs)) (hE : ∀ u ∈ ls, SqOk w u) (hl : (Sq.all ls).length ≤ 8796093022208) (hl2 : ls.length ≤ 4398046511104) :
    Calls Try.prog 55 ([v] : List Value).toArray w fun e w' => ∃ v', e = .returned v' ∧ Below w.heap.size w w' ∧ StrsAt w' v' (Sq.all ls) := by
  have hB := Below.refl w.heap.size w
  refine At.enter (N := 36) Try.func55 rfl rfl (by simp) [(0, v)] (by simp) ?_
  refine At.seq ?_
  refine At.region ?_
  refine At.assign rfl rfl ?_
  refine At.ops0 ?_
  refine At.thenN ?_
  refine At.seq ?_
  refine At.region ?_
  refine At.assign rfl rfl ?_
  refine At.ops0 ?_
  refine At.thenN ?_
  refine At.seq ?_
  refine At.seq ?_
  refine At.region ?_
  refine At.move rfl rfl ?_
  refine At.lenSl rfl hv.okL el110 rfl ?_
  refine At.move rfl rfl ?_
  refine At.ops0 ?_
  refine At.thenN ?_
  refine At.block ?_
  refine At.loop (Nat) (fun k => [(0, v), (3, .int .i64 ((Sq.all (ls.take k)).length : Int)), (9, v), (10, .int .i64 (ls.length : Int)), (11, .int .i64 (k : Int))]) (fun k w1 => w = w1 ∧ (k ≤ ls.length)) (fun k => ls.length - k) (0 : Nat) (Sub.cons rfl (Sub.cons rfl (Sub.cons rfl (Sub.cons rfl (Sub.cons rfl Sub.nil))))) ⟨rfl, (Nat.zero_le _)⟩ (fun k w1 hI => ?_)
  obtain ⟨rfl, hkb⟩ := hI
  show At _ _ [(0, v), (3, .int .i64 ((Sq.all (ls.take k)).length : Int)), (9, v), (10, .int .i64 (ls.length : Int)), (11, .int .i64 (k : Int))] _ _
  refine At.seq ?_
  refine At.region ?_
  refine At.lss rfl rfl rfl ?_
  refine At.ops0 ?_
  refine At.thenN ?_
  refine At.seq ?_
  refine At.cond (b := decide ((k : Int) < (ls.length : Int))) rfl (fun hc1 => ?_) (fun hc1 => ?_)
  · skip
    have hc1' := of_decide_eq_true hc1
    refine At.skip ?_
    refine At.thenN ?_
    refine At.seq ?_
    refine At.block ?_
    refine At.seq ?_
    refine At.region ?_
    obtain ⟨u1, hu1⟩ := some_of_lt (l := ls) (i := k) (by first | omega | (have := Sq.all_le hu1; omega) | (have := Sq.all_le hu2; omega))
    refine At.indexAddr (i := k) rfl rfl hv.okL (lt_of_some hu1) el110 sz27 rfl ?_
    refine At.load rfl (Ld.cell ag27 (cell_keep (((hv).row hu1).get ((hE u1 (List.mem_of_getElem? hu1))).c0) hB)) rfl ?_
    refine At.assign rfl rfl ?_
    refine At.ops0 ?_
    refine At.thenN ?_
    refine At.seq ?_
    refine At.region ?_
    refine At.move rfl rfl ?_
    refine At.move rfl rfl ?_
    refine At.lenSl rfl ((hE u1 (List.mem_of_getElem? hu1))).strs.ok el27 rfl ?_
    refine At.addI rfl rfl rfl (by first | omega | (have := Sq.all_le hu1; omega) | (have := Sq.all_le hu2; omega)) ?_
    refine At.assign rfl rfl ?_
    refine At.ops0 ?_
    refine At.thenN ?_
    refine At.seq ?_
    refine At.region ?_
    refine At.move rfl rfl ?_
    refine At.lss rfl rfl rfl ?_
    refine At.ops0 ?_
    refine At.thenN ?_
    have hb : (decide ((((Sq.all (ls.take k)).length : Int) + (u1.l.length : Int)) < 0)) = false := (decide_eq_false (by omega))
    refine At.set (d := 20) (u := .bool false) rfl (congrArg Value.bool hb) ?_
    refine At.condF rfl ?_
    refine At.skip ?_
    refine At.inN ?_
    refine At.thenN ?_
    refine At.region ?_
    refine At.addI rfl rfl rfl (by first | omega | (have := Sq.all_le hu1; omega) | (have := Sq.all_le hu2; omega)) ?_
    refine At.move rfl rfl ?_
    refine At.ops0 ?_
    refine At.thenN ?_
    exact fun a ha => ⟨(k + 1), ha.sub (Sub.cons rfl (Sub.cons (congrArg (fun x : Nat => some (Value.int .i64 (x : Int))) (Sq.all_len hu1).symm) (Sub.cons rfl (Sub.cons rfl (Sub.cons rfl Sub.nil))))), ⟨rfl, (by omega)⟩, by first | omega | (dsimp only; omega)⟩
  · skip
    have hc1' := of_decide_eq_false hc1
    refine At.exit ?_
    refine At.thenE ?_
    refine At.thenE ?_
    refine At.inE ?_
    refine At.thenN ?_
    refine At.seq ?_
    have htot : Sq.all (ls.take k) = Sq.all ls := by rw [List.take_of_length_le (by omega)]
    refine At.region ?_
    refine At.move rfl rfl ?_
    refine At.call en65 rfl rfl (grow_any ((Sq.all (ls.take k)).length) _ (by rw [htot]; omega)) (fun e w2 hR => ?_)
    obtain ⟨va1, rfl, hO1, hbl1, ghO1'⟩ := hR
    refine ⟨_, rfl, ?_⟩
    have ghO1 : ∀ g, Value.ownBlock va1 = some g → w.heap.size ≤ g := fun g hg => Nat.le_trans hB.size (ghO1' g hg)
    replace hB := Below.andThen hB hbl1
    refine At.assign rfl rfl ?_
    refine At.ops0 ?_
    refine At.thenN ?_
    refine At.seq ?_
    refine At.seq ?_
    refine At.region ?_
    refine At.move rfl rfl ?_
    refine At.lenSl rfl hv.okL el110 rfl ?_
    refine At.move rfl rfl ?_
    refine At.ops0 ?_
    refine At.thenN ?_
    refine At.block ?_
    refine At.loop (Nat × Value) (fun (k, vA) => [(6, vA), (25, v), (26, .int .i64 (ls.length : Int)), (27, .int .i64 (k : Int))]) (fun (k, vA) w3 => Below w.heap.size w w3 ∧ OwnS 9 w3 vA (Sq.all (ls.take k)) ∧ (∀ g, vA.ownBlock = some g → w.heap.size ≤ g) ∧ (k ≤ ls.length)) (fun (k, vA) => ls.length - k) (0, va1) (Sub.cons rfl (Sub.cons rfl (Sub.cons rfl (Sub.cons rfl Sub.nil)))) ⟨hB, hO1, (ghO1), (Nat.zero_le _)⟩ (fun gh w3 hI => ?_)
    obtain ⟨k, vA⟩ := gh
    clear hB hO1
    obtain ⟨hB, hrA, gA, hkb⟩ := hI
    show At _ _ [(6, vA), (25, v), (26, .int .i64 (ls.length : Int)), (27, .int .i64 (k : Int))] _ _
    refine At.seq ?_
    refine At.region ?_
    refine At.lss rfl rfl rfl ?_
    refine At.ops0 ?_
    refine At.thenN ?_
    refine At.seq ?_
    refine At.cond (b := decide ((k : Int) < (ls.length : Int))) rfl (fun hc2 => ?_) (fun hc2 => ?_)
    · skip
      have hc2' := of_decide_eq_true hc2
      refine At.skip ?_
      refine At.thenN ?_
      refine At.seq ?_
      refine At.block ?_
      refine At.seq ?_
      refine At.region ?_
      obtain ⟨u2, hu2⟩ := some_of_lt (l := ls) (i := k) (by first | omega | (have := Sq.all_le hu1; omega) | (have := Sq.all_le hu2; omega))
      refine At.indexAddr (i := k) rfl rfl hv.okL (lt_of_some hu2) el110 sz27 rfl ?_
      refine At.load rfl (Ld.cell ag27 (cell_keep (((hv).row hu2).get ((hE u2 (List.mem_of_getElem? hu2))).c0) hB)) rfl ?_
      refine At.assign rfl rfl ?_
      refine At.ops0 ?_
      refine At.thenN ?_
      refine At.region ?_
      refine At.move rfl rfl ?_
      refine At.move rfl rfl ?_
      refine At.appendS (ss := (Sq.all (ls.take k))) rfl rfl el27 el27 sz9 by9 ze9 rfl hrA ((((hE u2 (List.mem_of_getElem? hu2))).strs).keep hB) (by first | omega | (have := Sq.all_le hu1; omega) | (have := Sq.all_le hu2; omega)) rfl (fun va2 w4 hO2 hA1 => ?_)
      have ghO2 := hA1.ge hB.size gA
      replace hB := hA1.below hB hB.size gA
      refine At.assign rfl rfl ?_
      refine At.ops0 ?_
      refine At.inN ?_
      refine At.thenN ?_
      refine At.region ?_
      refine At.addI rfl rfl rfl (by first | omega | (have := Sq.all_le hu1; omega) | (have := Sq.all_le hu2; omega)) ?_
      refine At.move rfl rfl ?_
      refine At.ops0 ?_
      refine At.thenN ?_
      exact fun a ha => ⟨((k + 1), va2), ha.sub (Sub.cons rfl (Sub.cons rfl (Sub.cons rfl (Sub.cons rfl Sub.nil)))), ⟨hB, (Sq.all_snoc hu2 ▸ hO2), (ghO2), (by omega)⟩, by first | omega | (dsimp only; omega)⟩
    · skip
      have hc2' := of_decide_eq_false hc2
      refine At.exit ?_
      refine At.thenE ?_
      refine At.thenE ?_
      refine At.inE ?_
      refine At.thenN ?_
      refine At.seq ?_
      refine At.region ?_
      refine At.move rfl rfl ?_
      refine At.assign rfl rfl ?_
      refine At.ops0 ?_
      refine At.thenN ?_
      refine At.retc ?_
      refine At.doneR (ResV.tmp rfl ResV.nil) ?_
      exact ⟨vA, rfl, hB, (by have q := hrA.strs; rw [List.take_of_length_le (by omega)] at q; exact q)⟩
theorem with_any (v u : Value) (l m : List ByteArray) (w : World) (hv : StrsAt w v l) (hm : StrsAt w u m) (hl : l.length + m.length ≤ 8796093022208) :
    Calls Try.prog 43 ([v, u] : List Value).toArray w fun e w' => ∃ v', e = .returned v' ∧ Below w.heap.size w w' ∧ StrsAt w' v' (l ++ m) := by
  have hB := Below.refl w.heap.size w
  refine At.enter (N := 9) Try.func43 rfl rfl (by simp) [(0, v), (1, u)] (by simp) ?_
  refine At.seq ?_
  refine At.region ?_
  refine At.assign rfl rfl ?_
  refine At.ops0 ?_
  refine At.thenN ?_
  refine At.seq ?_
  refine At.region ?_
  refine At.move rfl rfl ?_
  refine At.move rfl rfl ?_
  refine At.buildSlice (xs := [.tmp 5, .tmp 6]) rfl rfl el110 sz27 ze27 (by intro v hv; simp only [List.mem_cons, List.not_mem_nil, or_false] at hv; rcases hv with rfl | rfl <;> first | rfl | (rw [cells_one ((hv).ok).one]; rfl) | (rw [cells_one ((hm).ok).one]; rfl) | simp [Value.cells, Value.cells]) rfl (by decide) rfl (fun b1 w1 F1 => ?_)
  have gb1 := F1.ge hB
  have hb1 : w1.heap[b1]? = some (.cells #[v, u] 27) := by have q := F1.new; simp only [List.flatMap_cons, List.flatMap_nil, cells_one ((hv).ok).one, cells_one ((hm).ok).one] at q; exact q
  replace hB := F1.below' hB
  have hsq : RowsAt w1 (.slice (some ⟨b1, 0, none⟩) 2 2) 1 (([⟨v, l⟩, ⟨u, m⟩] : List Sq).map Sq.cs) := RowsAt.own hb1 (by intro r hr; simp only [List.map_cons, List.map_nil, List.mem_cons, List.not_mem_nil, or_false] at hr; rcases hr with rfl | rfl <;> rfl) rfl (Nat.le_refl _)
  have hall : Sq.all [⟨v, l⟩, ⟨u, m⟩] = l ++ m := by simp [Sq.all]
  refine At.call en55 rfl rfl (concat_any (.slice (some ⟨b1, 0, none⟩) 2 2) [⟨v, l⟩, ⟨u, m⟩] _ hsq (by intro r hr; simp only [List.mem_cons, List.not_mem_nil, or_false] at hr; rcases hr with rfl | rfl; exact ⟨((hv).keep hB)⟩; exact ⟨((hm).keep hB)⟩) (by rw [hall, List.length_append]; omega) (by simp)) (fun e w2 hR => ?_)
  obtain ⟨vs1, rfl, hbl1, hst1⟩ := hR
  refine ⟨_, rfl, ?_⟩
  rw [hall] at hst1
  replace hb1 := Below.old hbl1 hb1
  replace hB := Below.andThen hB hbl1
  refine At.assign rfl rfl ?_
  refine At.ops0 ?_
  refine At.thenN ?_
  refine At.retc ?_
  refine At.doneR (ResV.tmp rfl ResV.nil) ?_
  exact ⟨_, rfl, hB, hst1⟩
theorem inside_any (t : Tm) (i : Nat) (v : Value) (l : List ByteArray) (w : World) (ht : TmOk w t) (hv : StrsAt w v l) (hl : l.length ≤ 4398046511104) :
    Calls Try.prog 42 ([.agg t.cs, .int .i64 (i : Int), v] : List Value).toArray w fun e w' => ∃ v', e = .returned v' ∧ Below w.heap.size w w' ∧ StrsAt w' v' (insideB t.k t.nm t.pm i l) := by
  have hB := Below.refl w.heap.size w
  refine At.enter (N := 42) Try.func42 rfl rfl (by simp) [(0, .agg t.cs), (1, .int .i64 (i : Int)), (2, v)] (by simp) ?_
  refine At.seq ?_
  refine At.region ?_
  refine At.box rfl rfl (fun b1 w1 F1 => ?_)
  have gb1 := F1.ge hB
  have hb1 : w1.heap[b1]? = some (.cells t.cs 33) := F1.new
  replace hB := F1.below' hB
  refine At.assign rfl rfl ?_
  refine At.ops0 ?_
  refine At.thenN ?_
  refine At.seq ?_
  refine At.block ?_
  refine At.seq ?_
  refine At.seq ?_
  refine At.region ?_
  refine At.fieldAddr rfl fo33_0 rfl ?_
  refine At.load rfl (Ld.ownCell ag3 hb1 (ht).c0) rfl ?_
  refine At.eqI rfl rfl rfl ?_
  refine At.assign rfl rfl ?_
  refine At.ops0 ?_
  refine At.thenN ?_
  refine At.cond (b := decide (t.k = 5)) rfl (fun hc1 => ?_) (fun hc1 => ?_)
  · skip
    have hc1' := of_decide_eq_true hc1
    refine At.set (d := 7) (u := .bool true) rfl (congrArg Value.bool hc1) ?_
    refine At.skip ?_
    refine At.thenN ?_
    refine At.condT rfl ?_
    refine At.seq ?_
    refine At.region ?_
    refine At.move rfl rfl ?_
    refine At.fieldAddr rfl fo33_2 rfl ?_
    refine At.load rfl (Ld.ownCell ag9 hb1 (ht).c2) rfl ?_
    refine At.buildSlice (xs := [.tmp 27]) rfl rfl el27 sz9 ze9 (by intro v hv; simp only [List.mem_cons, List.not_mem_nil, or_false] at hv; rcases hv with rfl <;> first | rfl | simp [Value.cells, Value.cells]) rfl (by decide) rfl (fun b2 w2 F2 => ?_)
    have n_b1_b2 : b1 ≠ b2 := Nat.ne_of_lt (F2.lt hb1)
    have gb2 := F2.ge hB
    replace hb1 := F2.old hb1
    have hb2 : w2.heap[b2]? = some (.cells #[.string t.nm] 9) := F2.new
    replace hB := F2.below' hB
    have hs1 : StrsAt w2 (.slice (some ⟨b2, 0, none⟩) 1 1) [t.nm] := StrsAt.own (ss := [t.nm]) hb2 rfl (by decide)
    refine At.call en43 rfl rfl (with_any v (.slice (some ⟨b2, 0, none⟩) 1 1) l ([t.nm]) _ ((hv).keep hB) hs1 (by simp only [List.length_cons, List.length_nil]; omega)) (fun e w3 hR => ?_)
    obtain ⟨vs1, rfl, hbl1, hst1⟩ := hR
    refine ⟨_, rfl, ?_⟩
    replace hb1 := Below.old hbl1 hb1
    replace hb2 := Below.old hbl1 hb2
    replace hB := Below.andThen hB hbl1
    refine At.assign rfl rfl ?_
    refine At.ops0 ?_
    refine At.thenN ?_
    refine At.retc ?_
    refine At.inR ?_
    refine At.thenR ?_
    refine At.doneR (ResV.tmp rfl ResV.nil) ?_
    have hin : insideB t.k t.nm t.pm i l = (l ++ [t.nm]) := by first | (exfalso; omega) | simp only [insideB, hc1, Bool.true_or, Bool.or_true, Bool.false_or, Bool.or_false, Bool.false_and, Bool.true_and, if_true, if_false, Bool.false_eq_true]
    exact ⟨_, rfl, hB, by rw [hin]; exact ((hst1).keep (Below.refl _ _))⟩
  · skip
    have hc1' := of_decide_eq_false hc1
    refine At.seq ?_
    refine At.region ?_
    refine At.fieldAddr rfl fo33_0 rfl ?_
    refine At.load rfl (Ld.ownCell ag3 hb1 (ht).c0) rfl ?_
    refine At.eqI rfl rfl rfl ?_
    refine At.move rfl rfl ?_
    refine At.cases (decide (t.k = 7)) (fun hg1 => ?_) (fun hg1 => ?_)
    · skip
      refine At.set (d := 14) (u := .bool true) rfl (congrArg Value.bool hg1) ?_
      have hg1' := of_decide_eq_true hg1
      refine At.yes rfl rfl rfl rfl ?_
      refine At.move rfl rfl ?_
      refine At.yes rfl rfl rfl rfl ?_
      refine At.eqI rfl rfl rfl ?_
      refine At.pickT rfl rfl rfl ?_
      refine At.assign rfl rfl ?_
      refine At.ops0 ?_
      refine At.thenN ?_
      refine At.cond (b := decide ((i : Int) = 1)) rfl (fun hc2 => ?_) (fun hc2 => ?_)
      · skip
        have hc2' := of_decide_eq_true hc2
        refine At.set (d := 7) (u := .bool true) rfl (congrArg Value.bool hc2) ?_
        refine At.skip ?_
        refine At.thenN ?_
        refine At.condT rfl ?_
        refine At.seq ?_
        refine At.region ?_
        refine At.move rfl rfl ?_
        refine At.fieldAddr rfl fo33_2 rfl ?_
        refine At.load rfl (Ld.ownCell ag9 hb1 (ht).c2) rfl ?_
        refine At.buildSlice (xs := [.tmp 27]) rfl rfl el27 sz9 ze9 (by intro v hv; simp only [List.mem_cons, List.not_mem_nil, or_false] at hv; rcases hv with rfl <;> first | rfl | simp [Value.cells, Value.cells]) rfl (by decide) rfl (fun b3 w4 F3 => ?_)
        have n_b1_b3 : b1 ≠ b3 := Nat.ne_of_lt (F3.lt hb1)
        have gb3 := F3.ge hB
        replace hb1 := F3.old hb1
        have hb3 : w4.heap[b3]? = some (.cells #[.string t.nm] 9) := F3.new
        replace hB := F3.below' hB
        have hs2 : StrsAt w4 (.slice (some ⟨b3, 0, none⟩) 1 1) [t.nm] := StrsAt.own (ss := [t.nm]) hb3 rfl (by decide)
        refine At.call en43 rfl rfl (with_any v (.slice (some ⟨b3, 0, none⟩) 1 1) l ([t.nm]) _ ((hv).keep hB) hs2 (by simp only [List.length_cons, List.length_nil]; omega)) (fun e w5 hR => ?_)
        obtain ⟨vs2, rfl, hbl2, hst2⟩ := hR
        refine ⟨_, rfl, ?_⟩
        replace hb1 := Below.old hbl2 hb1
        replace hb3 := Below.old hbl2 hb3
        replace hB := Below.andThen hB hbl2
        refine At.assign rfl rfl ?_
        refine At.ops0 ?_
        refine At.thenN ?_
        refine At.retc ?_
        refine At.inR ?_
        refine At.thenR ?_
        refine At.doneR (ResV.tmp rfl ResV.nil) ?_
        have hin : insideB t.k t.nm t.pm i l = (l ++ [t.nm]) := by first | (exfalso; omega) | simp only [insideB, hc1, hg1, hc2, Bool.true_or, Bool.or_true, Bool.false_or, Bool.or_false, Bool.false_and, Bool.true_and, if_true, if_false, Bool.false_eq_true]
        exact ⟨_, rfl, hB, by rw [hin]; exact ((hst2).keep (Below.refl _ _))⟩
      · skip
        have hc2' := of_decide_eq_false hc2
        refine At.region ?_
        refine At.fieldAddr rfl fo33_0 rfl ?_
        refine At.load rfl (Ld.ownCell ag3 hb1 (ht).c0) rfl ?_
        refine At.eqI rfl rfl rfl ?_
        refine At.move rfl rfl ?_
        refine At.cases (decide (t.k = 8)) (fun hg2 => ?_) (fun hg2 => ?_)
        · skip
          refine At.set (d := 21) (u := .bool true) rfl (congrArg Value.bool hg2) ?_
          have hg2' := of_decide_eq_true hg2
          refine At.yes rfl rfl rfl rfl ?_
          refine At.move rfl rfl ?_
          refine At.yes rfl rfl rfl rfl ?_
          refine At.eqI rfl rfl rfl ?_
          refine At.pickT rfl rfl rfl ?_
          refine At.assign rfl rfl ?_
          refine At.ops0 ?_
          refine At.thenN ?_
          refine At.cond (b := decide ((i : Int) = 1)) rfl (fun hc3 => ?_) (fun hc3 => ?_)
          · skip
            have hc3' := of_decide_eq_true hc3
            refine At.seq ?_
            refine At.region ?_
            refine At.move rfl rfl ?_
            refine At.fieldAddr rfl fo33_2 rfl ?_
            refine At.load rfl (Ld.ownCell ag9 hb1 (ht).c2) rfl ?_
            refine At.buildSlice (xs := [.tmp 27]) rfl rfl el27 sz9 ze9 (by intro v hv; simp only [List.mem_cons, List.not_mem_nil, or_false] at hv; rcases hv with rfl <;> first | rfl | simp [Value.cells, Value.cells]) rfl (by decide) rfl (fun b4 w6 F4 => ?_)
            have n_b1_b4 : b1 ≠ b4 := Nat.ne_of_lt (F4.lt hb1)
            have gb4 := F4.ge hB
            replace hb1 := F4.old hb1
            have hb4 : w6.heap[b4]? = some (.cells #[.string t.nm] 9) := F4.new
            replace hB := F4.below' hB
            have hs3 : StrsAt w6 (.slice (some ⟨b4, 0, none⟩) 1 1) [t.nm] := StrsAt.own (ss := [t.nm]) hb4 rfl (by decide)
            refine At.call en43 rfl rfl (with_any v (.slice (some ⟨b4, 0, none⟩) 1 1) l ([t.nm]) _ ((hv).keep hB) hs3 (by simp only [List.length_cons, List.length_nil]; omega)) (fun e w7 hR => ?_)
            obtain ⟨vs3, rfl, hbl3, hst3⟩ := hR
            refine ⟨_, rfl, ?_⟩
            replace hb1 := Below.old hbl3 hb1
            replace hb4 := Below.old hbl3 hb4
            replace hB := Below.andThen hB hbl3
            refine At.assign rfl rfl ?_
            refine At.ops0 ?_
            refine At.thenN ?_
            refine At.retc ?_
            refine At.inR ?_
            refine At.thenR ?_
            refine At.doneR (ResV.tmp rfl ResV.nil) ?_
            have hin : insideB t.k t.nm t.pm i l = (l ++ [t.nm]) := by first | (exfalso; omega) | simp only [insideB, hc1, hg1, hc2, hg2, hc3, Bool.true_or, Bool.or_true, Bool.false_or, Bool.or_false, Bool.false_and, Bool.true_and, if_true, if_false, Bool.false_eq_true]
            exact ⟨_, rfl, hB, by rw [hin]; exact ((hst3).keep (Below.refl _ _))⟩
          · skip
            have hc3' := of_decide_eq_false hc3
            refine At.seq ?_
            refine At.region ?_
            refine At.fieldAddr rfl fo33_0 rfl ?_
            refine At.load rfl (Ld.ownCell ag3 hb1 (ht).c0) rfl ?_
            refine At.eqI rfl rfl rfl ?_
            refine At.assign rfl rfl ?_
            refine At.ops0 ?_
            refine At.thenN ?_
            refine At.cond (b := decide (t.k = 8)) rfl (fun hc4 => ?_) (fun hc4 => ?_)
            · skip
              have hc4' := of_decide_eq_true hc4
              refine At.seq ?_
              refine At.region ?_
              refine At.move rfl rfl ?_
              refine At.fieldAddr rfl fo33_2 rfl ?_
              refine At.load rfl (Ld.ownCell ag9 hb1 (ht).c2) rfl ?_
              refine At.fieldAddr rfl fo33_3 rfl ?_
              refine At.load rfl (Ld.ownCell ag9 hb1 (ht).c3) rfl ?_
              refine At.buildSlice (xs := [.tmp 36, .tmp 38]) rfl rfl el27 sz9 ze9 (by intro v hv; simp only [List.mem_cons, List.not_mem_nil, or_false] at hv; rcases hv with rfl | rfl <;> first | rfl | simp [Value.cells, Value.cells]) rfl (by decide) rfl (fun b5 w8 F5 => ?_)
              have n_b1_b5 : b1 ≠ b5 := Nat.ne_of_lt (F5.lt hb1)
              have gb5 := F5.ge hB
              replace hb1 := F5.old hb1
              have hb5 : w8.heap[b5]? = some (.cells #[.string t.nm, .string t.pm] 9) := F5.new
              replace hB := F5.below' hB
              have hs4 : StrsAt w8 (.slice (some ⟨b5, 0, none⟩) 2 2) [t.nm, t.pm] := StrsAt.own (ss := [t.nm, t.pm]) hb5 rfl (by decide)
              refine At.call en43 rfl rfl (with_any v (.slice (some ⟨b5, 0, none⟩) 2 2) l ([t.nm, t.pm]) _ ((hv).keep hB) hs4 (by simp only [List.length_cons, List.length_nil]; omega)) (fun e w9 hR => ?_)
              obtain ⟨vs4, rfl, hbl4, hst4⟩ := hR
              refine ⟨_, rfl, ?_⟩
              replace hb1 := Below.old hbl4 hb1
              replace hb5 := Below.old hbl4 hb5
              replace hB := Below.andThen hB hbl4
              refine At.assign rfl rfl ?_
              refine At.ops0 ?_
              refine At.thenN ?_
              refine At.retc ?_
              refine At.inR ?_
              refine At.thenR ?_
              refine At.doneR (ResV.tmp rfl ResV.nil) ?_
              have hin : insideB t.k t.nm t.pm i l = (l ++ [t.nm, t.pm]) := by first | (exfalso; omega) | simp only [insideB, hc1, hg1, hc2, hg2, hc3, hc4, Bool.true_or, Bool.or_true, Bool.false_or, Bool.or_false, Bool.false_and, Bool.true_and, if_true, if_false, Bool.false_eq_true]
              exact ⟨_, rfl, hB, by rw [hin]; exact ((hst4).keep (Below.refl _ _))⟩
            · skip
              have hc4' := of_decide_eq_false hc4
              refine At.skip ?_
              refine At.inN ?_
              refine At.thenN ?_
              refine At.seq ?_
              refine At.region ?_
              refine At.move rfl rfl ?_
              refine At.assign rfl rfl ?_
              refine At.ops0 ?_
              refine At.thenN ?_
              refine At.retc ?_
              refine At.doneR (ResV.tmp rfl ResV.nil) ?_
              have hin : insideB t.k t.nm t.pm i l = l := by first | (exfalso; omega) | simp only [insideB, hc1, hg1, hc2, hg2, hc3, hc4, Bool.true_or, Bool.or_true, Bool.false_or, Bool.or_false, Bool.false_and, Bool.true_and, if_true, if_false, Bool.false_eq_true]
              exact ⟨_, rfl, hB, by rw [hin]; exact ((hv).keep hB)⟩
        · skip
          refine At.set (d := 21) (u := .bool false) rfl (congrArg Value.bool hg2) ?_
          have hg2' := of_decide_eq_false hg2
          refine At.no rfl rfl rfl rfl rfl rfl rfl ?_
          refine At.no rfl rfl rfl rfl rfl rfl rfl ?_
          refine At.pickF rfl rfl rfl ?_
          refine At.assign rfl rfl ?_
          refine At.ops0 ?_
          refine At.thenN ?_
          refine At.condF rfl ?_
          refine At.seq ?_
          refine At.region ?_
          refine At.fieldAddr rfl fo33_0 rfl ?_
          refine At.load rfl (Ld.ownCell ag3 hb1 (ht).c0) rfl ?_
          refine At.eqI rfl rfl rfl ?_
          refine At.assign rfl rfl ?_
          refine At.ops0 ?_
          refine At.thenN ?_
          refine At.cond (b := decide (t.k = 8)) rfl (fun hc5 => ?_) (fun hc5 => ?_)
          · skip
            have hc5' := of_decide_eq_true hc5
            refine At.seq ?_
            refine At.region ?_
            refine At.move rfl rfl ?_
            refine At.fieldAddr rfl fo33_2 rfl ?_
            refine At.load rfl (Ld.ownCell ag9 hb1 (ht).c2) rfl ?_
            refine At.fieldAddr rfl fo33_3 rfl ?_
            refine At.load rfl (Ld.ownCell ag9 hb1 (ht).c3) rfl ?_
            refine At.buildSlice (xs := [.tmp 36, .tmp 38]) rfl rfl el27 sz9 ze9 (by intro v hv; simp only [List.mem_cons, List.not_mem_nil, or_false] at hv; rcases hv with rfl | rfl <;> first | rfl | simp [Value.cells, Value.cells]) rfl (by decide) rfl (fun b6 w10 F6 => ?_)
            have n_b1_b6 : b1 ≠ b6 := Nat.ne_of_lt (F6.lt hb1)
            have gb6 := F6.ge hB
            replace hb1 := F6.old hb1
            have hb6 : w10.heap[b6]? = some (.cells #[.string t.nm, .string t.pm] 9) := F6.new
            replace hB := F6.below' hB
            have hs5 : StrsAt w10 (.slice (some ⟨b6, 0, none⟩) 2 2) [t.nm, t.pm] := StrsAt.own (ss := [t.nm, t.pm]) hb6 rfl (by decide)
            refine At.call en43 rfl rfl (with_any v (.slice (some ⟨b6, 0, none⟩) 2 2) l ([t.nm, t.pm]) _ ((hv).keep hB) hs5 (by simp only [List.length_cons, List.length_nil]; omega)) (fun e w11 hR => ?_)
            obtain ⟨vs5, rfl, hbl5, hst5⟩ := hR
            refine ⟨_, rfl, ?_⟩
            replace hb1 := Below.old hbl5 hb1
            replace hb6 := Below.old hbl5 hb6
            replace hB := Below.andThen hB hbl5
            refine At.assign rfl rfl ?_
            refine At.ops0 ?_
            refine At.thenN ?_
            refine At.retc ?_
            refine At.inR ?_
            refine At.thenR ?_
            refine At.doneR (ResV.tmp rfl ResV.nil) ?_
            have hin : insideB t.k t.nm t.pm i l = (l ++ [t.nm, t.pm]) := by first | (exfalso; omega) | simp only [insideB, hc1, hg1, hc2, hg2, hc5, Bool.true_or, Bool.or_true, Bool.false_or, Bool.or_false, Bool.false_and, Bool.true_and, if_true, if_false, Bool.false_eq_true]
            exact ⟨_, rfl, hB, by rw [hin]; exact ((hst5).keep (Below.refl _ _))⟩
          · skip
            have hc5' := of_decide_eq_false hc5
            refine At.skip ?_
            refine At.inN ?_
            refine At.thenN ?_
            refine At.seq ?_
            refine At.region ?_
            refine At.move rfl rfl ?_
            refine At.assign rfl rfl ?_
            refine At.ops0 ?_
            refine At.thenN ?_
            refine At.retc ?_
            refine At.doneR (ResV.tmp rfl ResV.nil) ?_
            have hin : insideB t.k t.nm t.pm i l = l := by first | (exfalso; omega) | simp only [insideB, hc1, hg1, hc2, hg2, hc5, Bool.true_or, Bool.or_true, Bool.false_or, Bool.or_false, Bool.false_and, Bool.true_and, if_true, if_false, Bool.false_eq_true]
            exact ⟨_, rfl, hB, by rw [hin]; exact ((hv).keep hB)⟩
    · skip
      refine At.set (d := 14) (u := .bool false) rfl (congrArg Value.bool hg1) ?_
      have hg1' := of_decide_eq_false hg1
      refine At.no rfl rfl rfl rfl rfl rfl rfl ?_
      refine At.no rfl rfl rfl rfl rfl rfl rfl ?_
      refine At.pickF rfl rfl rfl ?_
      refine At.assign rfl rfl ?_
      refine At.ops0 ?_
      refine At.thenN ?_
      refine At.condF rfl ?_
      refine At.region ?_
      refine At.fieldAddr rfl fo33_0 rfl ?_
      refine At.load rfl (Ld.ownCell ag3 hb1 (ht).c0) rfl ?_
      refine At.eqI rfl rfl rfl ?_
      refine At.move rfl rfl ?_
      refine At.cases (decide (t.k = 8)) (fun hg3 => ?_) (fun hg3 => ?_)
      · skip
        refine At.set (d := 21) (u := .bool true) rfl (congrArg Value.bool hg3) ?_
        have hg3' := of_decide_eq_true hg3
        refine At.yes rfl rfl rfl rfl ?_
        refine At.move rfl rfl ?_
        refine At.yes rfl rfl rfl rfl ?_
        refine At.eqI rfl rfl rfl ?_
        refine At.pickT rfl rfl rfl ?_
        refine At.assign rfl rfl ?_
        refine At.ops0 ?_
        refine At.thenN ?_
        refine At.cond (b := decide ((i : Int) = 1)) rfl (fun hc6 => ?_) (fun hc6 => ?_)
        · skip
          have hc6' := of_decide_eq_true hc6
          refine At.seq ?_
          refine At.region ?_
          refine At.move rfl rfl ?_
          refine At.fieldAddr rfl fo33_2 rfl ?_
          refine At.load rfl (Ld.ownCell ag9 hb1 (ht).c2) rfl ?_
          refine At.buildSlice (xs := [.tmp 27]) rfl rfl el27 sz9 ze9 (by intro v hv; simp only [List.mem_cons, List.not_mem_nil, or_false] at hv; rcases hv with rfl <;> first | rfl | simp [Value.cells, Value.cells]) rfl (by decide) rfl (fun b7 w12 F7 => ?_)
          have n_b1_b7 : b1 ≠ b7 := Nat.ne_of_lt (F7.lt hb1)
          have gb7 := F7.ge hB
          replace hb1 := F7.old hb1
          have hb7 : w12.heap[b7]? = some (.cells #[.string t.nm] 9) := F7.new
          replace hB := F7.below' hB
          have hs6 : StrsAt w12 (.slice (some ⟨b7, 0, none⟩) 1 1) [t.nm] := StrsAt.own (ss := [t.nm]) hb7 rfl (by decide)
          refine At.call en43 rfl rfl (with_any v (.slice (some ⟨b7, 0, none⟩) 1 1) l ([t.nm]) _ ((hv).keep hB) hs6 (by simp only [List.length_cons, List.length_nil]; omega)) (fun e w13 hR => ?_)
          obtain ⟨vs6, rfl, hbl6, hst6⟩ := hR
          refine ⟨_, rfl, ?_⟩
          replace hb1 := Below.old hbl6 hb1
          replace hb7 := Below.old hbl6 hb7
          replace hB := Below.andThen hB hbl6
          refine At.assign rfl rfl ?_
          refine At.ops0 ?_
          refine At.thenN ?_
          refine At.retc ?_
          refine At.inR ?_
          refine At.thenR ?_
          refine At.doneR (ResV.tmp rfl ResV.nil) ?_
          have hin : insideB t.k t.nm t.pm i l = (l ++ [t.nm]) := by first | (exfalso; omega) | simp only [insideB, hc1, hg1, hg3, hc6, Bool.true_or, Bool.or_true, Bool.false_or, Bool.or_false, Bool.false_and, Bool.true_and, if_true, if_false, Bool.false_eq_true]
          exact ⟨_, rfl, hB, by rw [hin]; exact ((hst6).keep (Below.refl _ _))⟩
        · skip
          have hc6' := of_decide_eq_false hc6
          refine At.seq ?_
          refine At.region ?_
          refine At.fieldAddr rfl fo33_0 rfl ?_
          refine At.load rfl (Ld.ownCell ag3 hb1 (ht).c0) rfl ?_
          refine At.eqI rfl rfl rfl ?_
          refine At.assign rfl rfl ?_
          refine At.ops0 ?_
          refine At.thenN ?_
          refine At.cond (b := decide (t.k = 8)) rfl (fun hc7 => ?_) (fun hc7 => ?_)
          · skip
            have hc7' := of_decide_eq_true hc7
            refine At.seq ?_
            refine At.region ?_
            refine At.move rfl rfl ?_
            refine At.fieldAddr rfl fo33_2 rfl ?_
            refine At.load rfl (Ld.ownCell ag9 hb1 (ht).c2) rfl ?_
            refine At.fieldAddr rfl fo33_3 rfl ?_
            refine At.load rfl (Ld.ownCell ag9 hb1 (ht).c3) rfl ?_
            refine At.buildSlice (xs := [.tmp 36, .tmp 38]) rfl rfl el27 sz9 ze9 (by intro v hv; simp only [List.mem_cons, List.not_mem_nil, or_false] at hv; rcases hv with rfl | rfl <;> first | rfl | simp [Value.cells, Value.cells]) rfl (by decide) rfl (fun b8 w14 F8 => ?_)
            have n_b1_b8 : b1 ≠ b8 := Nat.ne_of_lt (F8.lt hb1)
            have gb8 := F8.ge hB
            replace hb1 := F8.old hb1
            have hb8 : w14.heap[b8]? = some (.cells #[.string t.nm, .string t.pm] 9) := F8.new
            replace hB := F8.below' hB
            have hs7 : StrsAt w14 (.slice (some ⟨b8, 0, none⟩) 2 2) [t.nm, t.pm] := StrsAt.own (ss := [t.nm, t.pm]) hb8 rfl (by decide)
            refine At.call en43 rfl rfl (with_any v (.slice (some ⟨b8, 0, none⟩) 2 2) l ([t.nm, t.pm]) _ ((hv).keep hB) hs7 (by simp only [List.length_cons, List.length_nil]; omega)) (fun e w15 hR => ?_)
            obtain ⟨vs7, rfl, hbl7, hst7⟩ := hR
            refine ⟨_, rfl, ?_⟩
            replace hb1 := Below.old hbl7 hb1
            replace hb8 := Below.old hbl7 hb8
            replace hB := Below.andThen hB hbl7
            refine At.assign rfl rfl ?_
            refine At.ops0 ?_
            refine At.thenN ?_
            refine At.retc ?_
            refine At.inR ?_
            refine At.thenR ?_
            refine At.doneR (ResV.tmp rfl ResV.nil) ?_
            have hin : insideB t.k t.nm t.pm i l = (l ++ [t.nm, t.pm]) := by first | (exfalso; omega) | simp only [insideB, hc1, hg1, hg3, hc6, hc7, Bool.true_or, Bool.or_true, Bool.false_or, Bool.or_false, Bool.false_and, Bool.true_and, if_true, if_false, Bool.false_eq_true]
            exact ⟨_, rfl, hB, by rw [hin]; exact ((hst7).keep (Below.refl _ _))⟩
          · skip
            have hc7' := of_decide_eq_false hc7
            refine At.skip ?_
            refine At.inN ?_
            refine At.thenN ?_
            refine At.seq ?_
            refine At.region ?_
            refine At.move rfl rfl ?_
            refine At.assign rfl rfl ?_
            refine At.ops0 ?_
            refine At.thenN ?_
            refine At.retc ?_
            refine At.doneR (ResV.tmp rfl ResV.nil) ?_
            have hin : insideB t.k t.nm t.pm i l = l := by first | (exfalso; omega) | simp only [insideB, hc1, hg1, hg3, hc6, hc7, Bool.true_or, Bool.or_true, Bool.false_or, Bool.or_false, Bool.false_and, Bool.true_and, if_true, if_false, Bool.false_eq_true]
            exact ⟨_, rfl, hB, by rw [hin]; exact ((hv).keep hB)⟩
      · skip
        refine At.set (d := 21) (u := .bool false) rfl (congrArg Value.bool hg3) ?_
        have hg3' := of_decide_eq_false hg3
        refine At.no rfl rfl rfl rfl rfl rfl rfl ?_
        refine At.no rfl rfl rfl rfl rfl rfl rfl ?_
        refine At.pickF rfl rfl rfl ?_
        refine At.assign rfl rfl ?_
        refine At.ops0 ?_
        refine At.thenN ?_
        refine At.condF rfl ?_
        refine At.seq ?_
        refine At.region ?_
        refine At.fieldAddr rfl fo33_0 rfl ?_
        refine At.load rfl (Ld.ownCell ag3 hb1 (ht).c0) rfl ?_
        refine At.eqI rfl rfl rfl ?_
        refine At.assign rfl rfl ?_
        refine At.ops0 ?_
        refine At.thenN ?_
        refine At.cond (b := decide (t.k = 8)) rfl (fun hc8 => ?_) (fun hc8 => ?_)
        · skip
          have hc8' := of_decide_eq_true hc8
          refine At.seq ?_
          refine At.region ?_
          refine At.move rfl rfl ?_
          refine At.fieldAddr rfl fo33_2 rfl ?_
          refine At.load rfl (Ld.ownCell ag9 hb1 (ht).c2) rfl ?_
          refine At.fieldAddr rfl fo33_3 rfl ?_
          refine At.load rfl (Ld.ownCell ag9 hb1 (ht).c3) rfl ?_
          refine At.buildSlice (xs := [.tmp 36, .tmp 38]) rfl rfl el27 sz9 ze9 (by intro v hv; simp only [List.mem_cons, List.not_mem_nil, or_false] at hv; rcases hv with rfl | rfl <;> first | rfl | simp [Value.cells, Value.cells]) rfl (by decide) rfl (fun b9 w16 F9 => ?_)
          have n_b1_b9 : b1 ≠ b9 := Nat.ne_of_lt (F9.lt hb1)
          have gb9 := F9.ge hB
          replace hb1 := F9.old hb1
          have hb9 : w16.heap[b9]? = some (.cells #[.string t.nm, .string t.pm] 9) := F9.new
          replace hB := F9.below' hB
          have hs8 : StrsAt w16 (.slice (some ⟨b9, 0, none⟩) 2 2) [t.nm, t.pm] := StrsAt.own (ss := [t.nm, t.pm]) hb9 rfl (by decide)
          refine At.call en43 rfl rfl (with_any v (.slice (some ⟨b9, 0, none⟩) 2 2) l ([t.nm, t.pm]) _ ((hv).keep hB) hs8 (by simp only [List.length_cons, List.length_nil]; omega)) (fun e w17 hR => ?_)
          obtain ⟨vs8, rfl, hbl8, hst8⟩ := hR
          refine ⟨_, rfl, ?_⟩
          replace hb1 := Below.old hbl8 hb1
          replace hb9 := Below.old hbl8 hb9
          replace hB := Below.andThen hB hbl8
          refine At.assign rfl rfl ?_
          refine At.ops0 ?_
          refine At.thenN ?_
          refine At.retc ?_
          refine At.inR ?_
          refine At.thenR ?_
          refine At.doneR (ResV.tmp rfl ResV.nil) ?_
          have hin : insideB t.k t.nm t.pm i l = (l ++ [t.nm, t.pm]) := by first | (exfalso; omega) | simp only [insideB, hc1, hg1, hg3, hc8, Bool.true_or, Bool.or_true, Bool.false_or, Bool.or_false, Bool.false_and, Bool.true_and, if_true, if_false, Bool.false_eq_true]
          exact ⟨_, rfl, hB, by rw [hin]; exact ((hst8).keep (Below.refl _ _))⟩
        · skip
          have hc8' := of_decide_eq_false hc8
          refine At.skip ?_
          refine At.inN ?_
          refine At.thenN ?_
          refine At.seq ?_
          refine At.region ?_
          refine At.move rfl rfl ?_
          refine At.assign rfl rfl ?_
          refine At.ops0 ?_
          refine At.thenN ?_
          refine At.retc ?_
          refine At.doneR (ResV.tmp rfl ResV.nil) ?_
          have hin : insideB t.k t.nm t.pm i l = l := by first | (exfalso; omega) | simp only [insideB, hc1, hg1, hg3, hc8, Bool.true_or, Bool.or_true, Bool.false_or, Bool.or_false, Bool.false_and, Bool.true_and, if_true, if_false, Bool.false_eq_true]
          exact ⟨_, rfl, hB, by rw [hin]; exact ((hv).keep hB)⟩
theorem one_any (p : Pr) (t : Tm) (v : Value) (bound : List ByteArray) (w : World) (hp : PrOk w p) (hz : PrSz p) (ht : TmOk w t) (hv : StrsAt w v bound) (hl : bound.length + wtT t ≤ 4398046511104) :
    Calls Try.prog 41 ([.agg p.cs, .agg t.cs, v] : List Value).toArray w fun e w' => e = .returned (.bool (oneB p t bound)) ∧ Below w.heap.size w w' := by
  have hB := Below.refl w.heap.size w
  refine At.enter (N := 160) Try.func41 rfl rfl (by simp) [(0, .agg p.cs), (1, .agg t.cs), (2, v)] (by simp) ?_
  refine At.seq ?_
  refine At.region ?_
  refine At.box rfl rfl (fun b1 w1 F1 => ?_)
  have gb1 := F1.ge hB
  have hb1 : w1.heap[b1]? = some (.cells p.cs 75) := F1.new
  replace hB := F1.below' hB
  refine At.box rfl rfl (fun b2 w2 F2 => ?_)
  have n_b1_b2 : b1 ≠ b2 := Nat.ne_of_lt (F2.lt hb1)
  have gb2 := F2.ge hB
  replace hb1 := F2.old hb1
  have hb2 : w2.heap[b2]? = some (.cells t.cs 33) := F2.new
  replace hB := F2.below' hB
  refine At.assign rfl rfl ?_
  refine At.ops0 ?_
  refine At.thenN ?_
  refine At.seq ?_
  refine At.draw mixed [(2, v), (3, .pointer (some ⟨b1, 0, none⟩)), (4, .pointer (some ⟨b2, 0, none⟩))] (Sub.cons rfl (Sub.cons rfl (Sub.cons rfl Sub.nil))) rfl (RS ([] : List (Nat × Obj))) (dF [.c (.pointer (some ⟨b2, 0 + 5, none⟩)), .c (t.kv), .c (.int .i64 (t.kids.length : Int)), .c (.pointer (some ⟨b2, 0 + 6, none⟩)), .c (t.av), .c (.int .i64 (t.arms.length : Int)), .c (.bool (decide (0 < (t.arms.length : Int)))), .c (.int .i64 (t.kids.length : Int)), .c (.bool (decide (0 < (t.arms.length : Int))))]) (RS.drew _ _) RS.trans (dF.stab (by simp)) ⟨?_, ?_, ?_, ?_, ?_, ?_, ?_, ?_, ?_, trivial⟩ (fun vals w' hRS hf => ?_)
  · intro vals Lx w1 hRS hpre
    have hB := RS.below hRS hB (by simp)
    have hb1 := hRS.old _ _ (by simp) hb1
    have hb2 := hRS.old _ _ (by simp) hb2
    refine At.fieldAddr rfl fo33_5 rfl ?_
    refine At.ops0 ?_
    exact fun a ha => ⟨_, ha, RS.refl _ _, rfl⟩
  · intro vals Lx w1 hRS hpre
    have hB := RS.below hRS hB (by simp)
    have hb1 := hRS.old _ _ (by simp) hb1
    have hb2 := hRS.old _ _ (by simp) hb2
    have p0 : vals 0 = .pointer (some ⟨b2, 0 + 5, none⟩) := hpre 0 (by decide)
    refine At.set (d := 17) (v := vals 0) rfl p0 ?_
    refine At.load rfl (Ld.ownCell ag24 hb2 (ht).c5) rfl ?_
    refine At.ops0 ?_
    exact fun a ha => ⟨_, (ha).drop2 (congrArg some p0), RS.refl _ _, rfl⟩
  · intro vals Lx w1 hRS hpre
    have hB := RS.below hRS hB (by simp)
    have hb1 := hRS.old _ _ (by simp) hb1
    have hb2 := hRS.old _ _ (by simp) hb2
    have p1 : vals 1 = t.kv := hpre 1 (by decide)
    refine At.set (d := 18) (v := vals 1) rfl p1 ?_
    refine At.lenSl rfl ((ht).kidsAt).okL el24 rfl ?_
    refine At.ops0 ?_
    exact fun a ha => ⟨_, (ha).drop2 (congrArg some p1), RS.refl _ _, rfl⟩
  · intro vals Lx w1 hRS hpre
    have hB := RS.below hRS hB (by simp)
    have hb1 := hRS.old _ _ (by simp) hb1
    have hb2 := hRS.old _ _ (by simp) hb2
    refine At.fieldAddr rfl fo33_6 rfl ?_
    refine At.ops0 ?_
    exact fun a ha => ⟨_, ha, RS.refl _ _, rfl⟩
  · intro vals Lx w1 hRS hpre
    have hB := RS.below hRS hB (by simp)
    have hb1 := hRS.old _ _ (by simp) hb1
    have hb2 := hRS.old _ _ (by simp) hb2
    have p3 : vals 3 = .pointer (some ⟨b2, 0 + 6, none⟩) := hpre 3 (by decide)
    refine At.set (d := 20) (v := vals 3) rfl p3 ?_
    refine At.load rfl (Ld.ownCell ag25 hb2 (ht).c6) rfl ?_
    refine At.ops0 ?_
    exact fun a ha => ⟨_, (ha).drop2 (congrArg some p3), RS.refl _ _, rfl⟩
  · intro vals Lx w1 hRS hpre
    have hB := RS.below hRS hB (by simp)
    have hb1 := hRS.old _ _ (by simp) hb1
    have hb2 := hRS.old _ _ (by simp) hb2
    have p4 : vals 4 = t.av := hpre 4 (by decide)
    refine At.set (d := 21) (v := vals 4) rfl p4 ?_
    refine At.lenSl rfl ((ht).armsAt).okL el25 rfl ?_
    refine At.ops0 ?_
    exact fun a ha => ⟨_, (ha).drop2 (congrArg some p4), RS.refl _ _, rfl⟩
  · intro vals Lx w1 hRS hpre
    have hB := RS.below hRS hB (by simp)
    have hb1 := hRS.old _ _ (by simp) hb1
    have hb2 := hRS.old _ _ (by simp) hb2
    have p5 : vals 5 = .int .i64 (t.arms.length : Int) := hpre 5 (by decide)
    refine At.set (d := 22) (v := vals 5) rfl p5 ?_
    refine At.gtr rfl rfl rfl ?_
    refine At.ops0 ?_
    exact fun a ha => ⟨_, (ha).drop2 (congrArg some p5), RS.refl _ _, rfl⟩
  · intro vals Lx w1 hRS hpre
    have hB := RS.below hRS hB (by simp)
    have hb1 := hRS.old _ _ (by simp) hb1
    have hb2 := hRS.old _ _ (by simp) hb2
    have p2 : vals 2 = .int .i64 (t.kids.length : Int) := hpre 2 (by decide)
    refine At.set (d := 19) (v := vals 2) rfl p2 ?_
    have p0 : vals 0 = .pointer (some ⟨b2, 0 + 5, none⟩) := hpre 0 (by decide)
    refine At.set (d := 17) (v := vals 0) rfl p0 ?_
    have p1 : vals 1 = t.kv := hpre 1 (by decide)
    refine At.set (d := 18) (v := vals 1) rfl p1 ?_
    refine At.assign rfl rfl ?_
    refine At.ops0 ?_
    exact fun a ha => ⟨_, (((ha).drop2 (congrArg some p1)).drop2 (congrArg some p0)).drop2 (congrArg some p2), RS.refl _ _, rfl⟩
  · intro vals Lx w1 hRS hpre
    have hB := RS.below hRS hB (by simp)
    have hb1 := hRS.old _ _ (by simp) hb1
    have hb2 := hRS.old _ _ (by simp) hb2
    have p6 : vals 6 = .bool (decide (0 < (t.arms.length : Int))) := hpre 6 (by decide)
    refine At.set (d := 23) (v := vals 6) rfl p6 ?_
    have p7 : vals 7 = .int .i64 (t.kids.length : Int) := hpre 7 (by decide)
    refine At.set (d := 7) (v := vals 7) rfl p7 ?_
    have p0 : vals 0 = .pointer (some ⟨b2, 0 + 5, none⟩) := hpre 0 (by decide)
    refine At.set (d := 17) (v := vals 0) rfl p0 ?_
    have p1 : vals 1 = t.kv := hpre 1 (by decide)
    refine At.set (d := 18) (v := vals 1) rfl p1 ?_
    have p2 : vals 2 = .int .i64 (t.kids.length : Int) := hpre 2 (by decide)
    refine At.set (d := 19) (v := vals 2) rfl p2 ?_
    have p3 : vals 3 = .pointer (some ⟨b2, 0 + 6, none⟩) := hpre 3 (by decide)
    refine At.set (d := 20) (v := vals 3) rfl p3 ?_
    have p4 : vals 4 = t.av := hpre 4 (by decide)
    refine At.set (d := 21) (v := vals 4) rfl p4 ?_
    have p5 : vals 5 = .int .i64 (t.arms.length : Int) := hpre 5 (by decide)
    refine At.set (d := 22) (v := vals 5) rfl p5 ?_
    refine At.assign rfl rfl ?_
    refine At.ops0 ?_
    exact fun a ha => ⟨_, ((((((((ha).drop2 (congrArg some p5)).drop2 (congrArg some p4)).drop2 (congrArg some p3)).drop2 (congrArg some p2)).drop2 (congrArg some p1)).drop2 (congrArg some p0)).drop2 (congrArg some p7)).drop2 (congrArg some p6), RS.refl _ _, rfl⟩
  · skip
    have hB := RS.below hRS hB (by simp)
    have hb1 := hRS.old _ _ (by simp) hb1
    have hb2 := hRS.old _ _ (by simp) hb2
    have p7 : vals 7 = .int .i64 (t.kids.length : Int) := hf 7 (by decide)
    have p8 : vals 8 = .bool (decide (0 < (t.arms.length : Int))) := hf 8 (by decide)
    refine At.sub (L' := [(2, v), (3, .pointer (some ⟨b1, 0, none⟩)), (4, .pointer (some ⟨b2, 0, none⟩)), (7, .int .i64 (t.kids.length : Int)), (8, .bool (decide (0 < (t.arms.length : Int))))]) (Sub.cons rfl (Sub.cons rfl (Sub.cons rfl (Sub.cons (congrArg some p7) (Sub.cons (congrArg some p8) Sub.nil))))) ?_
    refine At.thenN ?_
    refine At.seq ?_
    refine At.seq ?_
    refine At.region ?_
    refine At.fieldAddr rfl fo33_0 rfl ?_
    refine At.load rfl (Ld.ownCell ag3 hb2 (ht).c0) rfl ?_
    refine At.ops0 ?_
    refine At.thenN ?_
    refine At.block ?_
    refine At.seq ?_
    refine At.region ?_
    refine At.eqI rfl rfl rfl ?_
    refine At.assign rfl rfl ?_
    refine At.ops0 ?_
    refine At.thenN ?_
    refine At.cond (b := decide (t.k = 14)) rfl (fun hc1 => ?_) (fun hc1 => ?_)
    · skip
      have hc1' := of_decide_eq_true hc1
      refine At.seq ?_
      refine At.region ?_
      refine At.move rfl rfl ?_
      refine At.eqI rfl rfl rfl ?_
      refine At.move rfl rfl ?_
      refine At.cases (decide ((t.kids.length : Int) = 1)) (fun hg1 => ?_) (fun hg1 => ?_)
      · skip
        refine At.set (d := 30) (u := .bool true) rfl (congrArg Value.bool hg1) ?_
        have hg1' := of_decide_eq_true hg1
        refine At.yes rfl rfl rfl rfl ?_
        refine At.load rfl (Ld.own ag75 (sz75.trans (congrArg some (hp).size.symm)) hb1) rfl ?_
        refine At.yes rfl rfl rfl rfl ?_
        refine At.load rfl (Ld.own ag33 (sz33.trans (congrArg some (ht).size.symm)) hb2) rfl ?_
        refine At.yes rfl rfl rfl rfl ?_
        refine At.call en53 rfl rfl (handler_any p t _ ((hp).keep hB) hz ((ht).keep hB)) (fun e w4 hR => ?_)
        obtain ⟨rfl, hbl1⟩ := hR
        refine ⟨_, rfl, ?_⟩
        replace hb1 := Below.old hbl1 hb1
        replace hb2 := Below.old hbl1 hb2
        replace hB := Below.andThen hB hbl1
        refine At.pickT rfl rfl rfl ?_
        refine At.assign rfl rfl ?_
        refine At.ops0 ?_
        refine At.thenN ?_
        refine At.retc ?_
        refine At.inR ?_
        refine At.thenR ?_
        refine At.doneR (ResV.tmp rfl ResV.nil) ?_
        exact ⟨congrArg Ending.returned (congrArg Value.bool (by simp only [oneB, hc1, hg1, Bool.true_or, Bool.or_true, Bool.false_or, Bool.or_false, Bool.false_and, Bool.true_and, Bool.and_true, Bool.and_false, Bool.not_true, Bool.not_false, if_true, if_false, Bool.false_eq_true])), hB⟩
      · skip
        refine At.set (d := 30) (u := .bool false) rfl (congrArg Value.bool hg1) ?_
        have hg1' := of_decide_eq_false hg1
        refine At.no rfl rfl rfl rfl rfl rfl rfl ?_
        refine At.no rfl rfl rfl rfl rfl rfl rfl ?_
        refine At.no rfl rfl rfl rfl rfl rfl rfl ?_
        refine At.pickF rfl rfl rfl ?_
        refine At.assign rfl rfl ?_
        refine At.ops0 ?_
        refine At.thenN ?_
        refine At.retc ?_
        refine At.inR ?_
        refine At.thenR ?_
        refine At.doneR (ResV.tmp rfl ResV.nil) ?_
        exact ⟨congrArg Ending.returned (congrArg Value.bool (by simp only [oneB, hc1, hg1, Bool.true_or, Bool.or_true, Bool.false_or, Bool.or_false, Bool.false_and, Bool.true_and, Bool.and_true, Bool.and_false, Bool.not_true, Bool.not_false, if_true, if_false, Bool.false_eq_true])), hB⟩
    · skip
      have hc1' := of_decide_eq_false hc1
      refine At.seq ?_
      refine At.region ?_
      refine At.eqI rfl rfl rfl ?_
      refine At.assign rfl rfl ?_
      refine At.ops0 ?_
      refine At.thenN ?_
      refine At.cond (b := decide (t.k = 12)) rfl (fun hc2 => ?_) (fun hc2 => ?_)
      · skip
        have hc2' := of_decide_eq_true hc2
        refine At.seq ?_
        refine At.region ?_
        refine At.move rfl rfl ?_
        refine At.eqI rfl rfl rfl ?_
        refine At.move rfl rfl ?_
        refine At.cases (decide ((t.kids.length : Int) = 1)) (fun hg2 => ?_) (fun hg2 => ?_)
        · skip
          refine At.set (d := 39) (u := .bool true) rfl (congrArg Value.bool hg2) ?_
          have hg2' := of_decide_eq_true hg2
          refine At.yes rfl rfl rfl rfl ?_
          refine At.load rfl (Ld.own ag75 (sz75.trans (congrArg some (hp).size.symm)) hb1) rfl ?_
          refine At.yes rfl rfl rfl rfl ?_
          refine At.load rfl (Ld.own ag33 (sz33.trans (congrArg some (ht).size.symm)) hb2) rfl ?_
          refine At.yes rfl rfl rfl rfl ?_
          refine At.call en54 rfl rfl (match_any p t _ ((hp).keep hB) hz ((ht).keep hB) (fun a ha => by have := wt_arm ha; omega)) (fun e w5 hR => ?_)
          obtain ⟨rfl, hbl2⟩ := hR
          refine ⟨_, rfl, ?_⟩
          replace hb1 := Below.old hbl2 hb1
          replace hb2 := Below.old hbl2 hb2
          replace hB := Below.andThen hB hbl2
          refine At.pickT rfl rfl rfl ?_
          refine At.assign rfl rfl ?_
          refine At.ops0 ?_
          refine At.thenN ?_
          refine At.retc ?_
          refine At.inR ?_
          refine At.thenR ?_
          refine At.doneR (ResV.tmp rfl ResV.nil) ?_
          exact ⟨congrArg Ending.returned (congrArg Value.bool (by simp only [oneB, hc1, hc2, hg2, Bool.true_or, Bool.or_true, Bool.false_or, Bool.or_false, Bool.false_and, Bool.true_and, Bool.and_true, Bool.and_false, Bool.not_true, Bool.not_false, if_true, if_false, Bool.false_eq_true])), hB⟩
        · skip
          refine At.set (d := 39) (u := .bool false) rfl (congrArg Value.bool hg2) ?_
          have hg2' := of_decide_eq_false hg2
          refine At.no rfl rfl rfl rfl rfl rfl rfl ?_
          refine At.no rfl rfl rfl rfl rfl rfl rfl ?_
          refine At.no rfl rfl rfl rfl rfl rfl rfl ?_
          refine At.pickF rfl rfl rfl ?_
          refine At.assign rfl rfl ?_
          refine At.ops0 ?_
          refine At.thenN ?_
          refine At.retc ?_
          refine At.inR ?_
          refine At.thenR ?_
          refine At.doneR (ResV.tmp rfl ResV.nil) ?_
          exact ⟨congrArg Ending.returned (congrArg Value.bool (by simp only [oneB, hc1, hc2, hg2, Bool.true_or, Bool.or_true, Bool.false_or, Bool.or_false, Bool.false_and, Bool.true_and, Bool.and_true, Bool.and_false, Bool.not_true, Bool.not_false, if_true, if_false, Bool.false_eq_true])), hB⟩
      · skip
        have hc2' := of_decide_eq_false hc2
        refine At.seq ?_
        refine At.region ?_
        refine At.eqI rfl rfl rfl ?_
        refine At.assign rfl rfl ?_
        refine At.ops0 ?_
        refine At.thenN ?_
        refine At.cond (b := decide (t.k = 1)) rfl (fun hc3 => ?_) (fun hc3 => ?_)
        · skip
          have hc3' := of_decide_eq_true hc3
          refine At.seq ?_
          refine At.region ?_
          refine At.move rfl rfl ?_
          refine At.eqI rfl rfl rfl ?_
          refine At.move rfl rfl ?_
          refine At.cases (decide ((t.kids.length : Int) = 0)) (fun hg3 => ?_) (fun hg3 => ?_)
          · skip
            refine At.set (d := 48) (u := .bool true) rfl (congrArg Value.bool hg3) ?_
            have hg3' := of_decide_eq_true hg3
            refine At.yes rfl rfl rfl rfl ?_
            refine At.move rfl rfl ?_
            refine At.yes rfl rfl rfl rfl ?_
            refine At.not rfl rfl ?_
            refine At.pickT rfl rfl rfl ?_
            refine At.move rfl rfl ?_
            refine At.cases ((!decide (0 < (t.arms.length : Int)))) (fun hg4 => ?_) (fun hg4 => ?_)
            · skip
              refine At.set (d := 52) (u := .bool true) rfl (congrArg Value.bool hg4) ?_
              have hg4' := hg4; simp only [Bool.not_eq_true', Bool.not_eq_false', decide_eq_true_eq, decide_eq_false_iff_not] at hg4'
              refine At.yes rfl rfl rfl rfl ?_
              refine At.fieldAddr rfl fo33_2 rfl ?_
              refine At.yes rfl rfl rfl rfl ?_
              refine At.load rfl (Ld.ownCell ag9 hb2 (ht).c2) rfl ?_
              refine At.yes rfl rfl rfl rfl ?_
              refine At.neS rfl rfl rfl ?_
              refine At.pickT rfl rfl rfl ?_
              refine At.move rfl rfl ?_
              refine At.cases ((!decide (t.nm = (⟨#[95]⟩ : ByteArray)))) (fun hg5 => ?_) (fun hg5 => ?_)
              · skip
                refine At.set (d := 57) (u := .bool true) rfl (congrArg Value.bool hg5) ?_
                have hg5' := hg5; simp only [Bool.not_eq_true', Bool.not_eq_false', decide_eq_true_eq, decide_eq_false_iff_not] at hg5'
                refine At.yes rfl rfl rfl rfl ?_
                refine At.move rfl rfl ?_
                refine At.yes rfl rfl rfl rfl ?_
                refine At.fieldAddr rfl fo33_2 rfl ?_
                refine At.yes rfl rfl rfl rfl ?_
                refine At.load rfl (Ld.ownCell ag9 hb2 (ht).c2) rfl ?_
                refine At.yes rfl rfl rfl rfl ?_
                refine At.call en50 rfl rfl (contains_any v bound t.nm _ ((hv).keep hB) (by have := wt_kids t; have := wt_arms t; omega)) (fun e w' hR => ?_)
                obtain ⟨rfl, rfl⟩ := hR
                refine ⟨_, rfl, ?_⟩
                refine At.pickT rfl rfl rfl ?_
                refine At.assign rfl rfl ?_
                refine At.ops0 ?_
                refine At.thenN ?_
                refine At.retc ?_
                refine At.inR ?_
                refine At.thenR ?_
                refine At.doneR (ResV.tmp rfl ResV.nil) ?_
                exact ⟨congrArg Ending.returned (congrArg Value.bool (by simp only [oneB, hc1, hc2, hc3, hg3, hg4, hg5, Bool.true_or, Bool.or_true, Bool.false_or, Bool.or_false, Bool.false_and, Bool.true_and, Bool.and_true, Bool.and_false, Bool.not_true, Bool.not_false, if_true, if_false, Bool.false_eq_true])), hB⟩
              · skip
                refine At.set (d := 57) (u := .bool false) rfl (congrArg Value.bool hg5) ?_
                have hg5' := hg5; simp only [Bool.not_eq_true', Bool.not_eq_false', decide_eq_true_eq, decide_eq_false_iff_not] at hg5'
                refine At.no rfl rfl rfl rfl rfl rfl rfl ?_
                refine At.no rfl rfl rfl rfl rfl rfl rfl ?_
                refine At.no rfl rfl rfl rfl rfl rfl rfl ?_
                refine At.no rfl rfl rfl rfl rfl rfl rfl ?_
                refine At.pickF rfl rfl rfl ?_
                refine At.assign rfl rfl ?_
                refine At.ops0 ?_
                refine At.thenN ?_
                refine At.retc ?_
                refine At.inR ?_
                refine At.thenR ?_
                refine At.doneR (ResV.tmp rfl ResV.nil) ?_
                exact ⟨congrArg Ending.returned (congrArg Value.bool (by simp only [oneB, hc1, hc2, hc3, hg3, hg4, hg5, Bool.true_or, Bool.or_true, Bool.false_or, Bool.or_false, Bool.false_and, Bool.true_and, Bool.and_true, Bool.and_false, Bool.not_true, Bool.not_false, if_true, if_false, Bool.false_eq_true])), hB⟩
            · skip
              refine At.set (d := 52) (u := .bool false) rfl (congrArg Value.bool hg4) ?_
              have hg4' := hg4; simp only [Bool.not_eq_true', Bool.not_eq_false', decide_eq_true_eq, decide_eq_false_iff_not] at hg4'
              refine At.no rfl rfl rfl rfl rfl rfl rfl ?_
              refine At.no rfl rfl rfl rfl rfl rfl rfl ?_
              refine At.no rfl rfl rfl rfl rfl rfl rfl ?_
              refine At.pickF rfl rfl rfl ?_
              refine At.move rfl rfl ?_
              refine At.no rfl rfl rfl rfl rfl rfl rfl ?_
              refine At.no rfl rfl rfl rfl rfl rfl rfl ?_
              refine At.no rfl rfl rfl rfl rfl rfl rfl ?_
              refine At.no rfl rfl rfl rfl rfl rfl rfl ?_
              refine At.pickF rfl rfl rfl ?_
              refine At.assign rfl rfl ?_
              refine At.ops0 ?_
              refine At.thenN ?_
              refine At.retc ?_
              refine At.inR ?_
              refine At.thenR ?_
              refine At.doneR (ResV.tmp rfl ResV.nil) ?_
              exact ⟨congrArg Ending.returned (congrArg Value.bool (by simp only [oneB, hc1, hc2, hc3, hg3, hg4, Bool.true_or, Bool.or_true, Bool.false_or, Bool.or_false, Bool.false_and, Bool.true_and, Bool.and_true, Bool.and_false, Bool.not_true, Bool.not_false, if_true, if_false, Bool.false_eq_true])), hB⟩
          · skip
            refine At.set (d := 48) (u := .bool false) rfl (congrArg Value.bool hg3) ?_
            have hg3' := of_decide_eq_false hg3
            refine At.no rfl rfl rfl rfl rfl rfl rfl ?_
            refine At.no rfl rfl rfl rfl rfl rfl rfl ?_
            refine At.pickF rfl rfl rfl ?_
            refine At.move rfl rfl ?_
            refine At.no rfl rfl rfl rfl rfl rfl rfl ?_
            refine At.no rfl rfl rfl rfl rfl rfl rfl ?_
            refine At.no rfl rfl rfl rfl rfl rfl rfl ?_
            refine At.pickF rfl rfl rfl ?_
            refine At.move rfl rfl ?_
            refine At.no rfl rfl rfl rfl rfl rfl rfl ?_
            refine At.no rfl rfl rfl rfl rfl rfl rfl ?_
            refine At.no rfl rfl rfl rfl rfl rfl rfl ?_
            refine At.no rfl rfl rfl rfl rfl rfl rfl ?_
            refine At.pickF rfl rfl rfl ?_
            refine At.assign rfl rfl ?_
            refine At.ops0 ?_
            refine At.thenN ?_
            refine At.retc ?_
            refine At.inR ?_
            refine At.thenR ?_
            refine At.doneR (ResV.tmp rfl ResV.nil) ?_
            exact ⟨congrArg Ending.returned (congrArg Value.bool (by simp only [oneB, hc1, hc2, hc3, hg3, Bool.true_or, Bool.or_true, Bool.false_or, Bool.or_false, Bool.false_and, Bool.true_and, Bool.and_true, Bool.and_false, Bool.not_true, Bool.not_false, if_true, if_false, Bool.false_eq_true])), hB⟩
        · skip
          have hc3' := of_decide_eq_false hc3
          refine At.seq ?_
          refine At.seq ?_
          refine At.region ?_
          refine At.eqI rfl rfl rfl ?_
          refine At.assign rfl rfl ?_
          refine At.ops0 ?_
          refine At.thenN ?_
          refine At.cond (b := decide (t.k = 2)) rfl (fun hc4 => ?_) (fun hc4 => ?_)
          · skip
            have hc4' := of_decide_eq_true hc4
            refine At.set (d := 63) (u := .bool true) rfl (congrArg Value.bool hc4) ?_
            refine At.skip ?_
            refine At.thenN ?_
            refine At.condT rfl ?_
            refine At.seq ?_
            refine At.region ?_
            refine At.move rfl rfl ?_
            refine At.eqI rfl rfl rfl ?_
            refine At.move rfl rfl ?_
            refine At.cases (decide ((t.kids.length : Int) = 0)) (fun hg6 => ?_) (fun hg6 => ?_)
            · skip
              refine At.set (d := 69) (u := .bool true) rfl (congrArg Value.bool hg6) ?_
              have hg6' := of_decide_eq_true hg6
              refine At.yes rfl rfl rfl rfl ?_
              refine At.move rfl rfl ?_
              refine At.yes rfl rfl rfl rfl ?_
              refine At.not rfl rfl ?_
              refine At.pickT rfl rfl rfl ?_
              refine At.assign rfl rfl ?_
              refine At.ops0 ?_
              refine At.thenN ?_
              refine At.retc ?_
              refine At.inR ?_
              refine At.thenR ?_
              refine At.doneR (ResV.tmp rfl ResV.nil) ?_
              exact ⟨congrArg Ending.returned (congrArg Value.bool (by simp only [oneB, hc1, hc2, hc3, hc4, hg6, Bool.true_or, Bool.or_true, Bool.false_or, Bool.or_false, Bool.false_and, Bool.true_and, Bool.and_true, Bool.and_false, Bool.not_true, Bool.not_false, if_true, if_false, Bool.false_eq_true])), hB⟩
            · skip
              refine At.set (d := 69) (u := .bool false) rfl (congrArg Value.bool hg6) ?_
              have hg6' := of_decide_eq_false hg6
              refine At.no rfl rfl rfl rfl rfl rfl rfl ?_
              refine At.no rfl rfl rfl rfl rfl rfl rfl ?_
              refine At.pickF rfl rfl rfl ?_
              refine At.assign rfl rfl ?_
              refine At.ops0 ?_
              refine At.thenN ?_
              refine At.retc ?_
              refine At.inR ?_
              refine At.thenR ?_
              refine At.doneR (ResV.tmp rfl ResV.nil) ?_
              exact ⟨congrArg Ending.returned (congrArg Value.bool (by simp only [oneB, hc1, hc2, hc3, hc4, hg6, Bool.true_or, Bool.or_true, Bool.false_or, Bool.or_false, Bool.false_and, Bool.true_and, Bool.and_true, Bool.and_false, Bool.not_true, Bool.not_false, if_true, if_false, Bool.false_eq_true])), hB⟩
          · skip
            have hc4' := of_decide_eq_false hc4
            refine At.seq ?_
            refine At.region ?_
            refine At.eqI rfl rfl rfl ?_
            refine At.assign rfl rfl ?_
            refine At.ops0 ?_
            refine At.thenN ?_
            refine At.cond (b := decide (t.k = 3)) rfl (fun hc5 => ?_) (fun hc5 => ?_)
            · skip
              have hc5' := of_decide_eq_true hc5
              refine At.set (d := 63) (u := .bool true) rfl (congrArg Value.bool hc5) ?_
              refine At.skip ?_
              refine At.thenN ?_
              refine At.condT rfl ?_
              refine At.seq ?_
              refine At.region ?_
              refine At.move rfl rfl ?_
              refine At.eqI rfl rfl rfl ?_
              refine At.move rfl rfl ?_
              refine At.cases (decide ((t.kids.length : Int) = 0)) (fun hg7 => ?_) (fun hg7 => ?_)
              · skip
                refine At.set (d := 69) (u := .bool true) rfl (congrArg Value.bool hg7) ?_
                have hg7' := of_decide_eq_true hg7
                refine At.yes rfl rfl rfl rfl ?_
                refine At.move rfl rfl ?_
                refine At.yes rfl rfl rfl rfl ?_
                refine At.not rfl rfl ?_
                refine At.pickT rfl rfl rfl ?_
                refine At.assign rfl rfl ?_
                refine At.ops0 ?_
                refine At.thenN ?_
                refine At.retc ?_
                refine At.inR ?_
                refine At.thenR ?_
                refine At.doneR (ResV.tmp rfl ResV.nil) ?_
                exact ⟨congrArg Ending.returned (congrArg Value.bool (by simp only [oneB, hc1, hc2, hc3, hc4, hc5, hg7, Bool.true_or, Bool.or_true, Bool.false_or, Bool.or_false, Bool.false_and, Bool.true_and, Bool.and_true, Bool.and_false, Bool.not_true, Bool.not_false, if_true, if_false, Bool.false_eq_true])), hB⟩
              · skip
                refine At.set (d := 69) (u := .bool false) rfl (congrArg Value.bool hg7) ?_
                have hg7' := of_decide_eq_false hg7
                refine At.no rfl rfl rfl rfl rfl rfl rfl ?_
                refine At.no rfl rfl rfl rfl rfl rfl rfl ?_
                refine At.pickF rfl rfl rfl ?_
                refine At.assign rfl rfl ?_
                refine At.ops0 ?_
                refine At.thenN ?_
                refine At.retc ?_
                refine At.inR ?_
                refine At.thenR ?_
                refine At.doneR (ResV.tmp rfl ResV.nil) ?_
                exact ⟨congrArg Ending.returned (congrArg Value.bool (by simp only [oneB, hc1, hc2, hc3, hc4, hc5, hg7, Bool.true_or, Bool.or_true, Bool.false_or, Bool.or_false, Bool.false_and, Bool.true_and, Bool.and_true, Bool.and_false, Bool.not_true, Bool.not_false, if_true, if_false, Bool.false_eq_true])), hB⟩
            · skip
              have hc5' := of_decide_eq_false hc5
              refine At.region ?_
              refine At.eqI rfl rfl rfl ?_
              refine At.assign rfl rfl ?_
              refine At.ops0 ?_
              refine At.thenN ?_
              refine At.cond (b := decide (t.k = 4)) rfl (fun hc6 => ?_) (fun hc6 => ?_)
              · skip
                have hc6' := of_decide_eq_true hc6
                refine At.seq ?_
                refine At.region ?_
                refine At.move rfl rfl ?_
                refine At.eqI rfl rfl rfl ?_
                refine At.move rfl rfl ?_
                refine At.cases (decide ((t.kids.length : Int) = 0)) (fun hg8 => ?_) (fun hg8 => ?_)
                · skip
                  refine At.set (d := 69) (u := .bool true) rfl (congrArg Value.bool hg8) ?_
                  have hg8' := of_decide_eq_true hg8
                  refine At.yes rfl rfl rfl rfl ?_
                  refine At.move rfl rfl ?_
                  refine At.yes rfl rfl rfl rfl ?_
                  refine At.not rfl rfl ?_
                  refine At.pickT rfl rfl rfl ?_
                  refine At.assign rfl rfl ?_
                  refine At.ops0 ?_
                  refine At.thenN ?_
                  refine At.retc ?_
                  refine At.inR ?_
                  refine At.thenR ?_
                  refine At.doneR (ResV.tmp rfl ResV.nil) ?_
                  exact ⟨congrArg Ending.returned (congrArg Value.bool (by simp only [oneB, hc1, hc2, hc3, hc4, hc5, hc6, hg8, Bool.true_or, Bool.or_true, Bool.false_or, Bool.or_false, Bool.false_and, Bool.true_and, Bool.and_true, Bool.and_false, Bool.not_true, Bool.not_false, if_true, if_false, Bool.false_eq_true])), hB⟩
                · skip
                  refine At.set (d := 69) (u := .bool false) rfl (congrArg Value.bool hg8) ?_
                  have hg8' := of_decide_eq_false hg8
                  refine At.no rfl rfl rfl rfl rfl rfl rfl ?_
                  refine At.no rfl rfl rfl rfl rfl rfl rfl ?_
                  refine At.pickF rfl rfl rfl ?_
                  refine At.assign rfl rfl ?_
                  refine At.ops0 ?_
                  refine At.thenN ?_
                  refine At.retc ?_
                  refine At.inR ?_
                  refine At.thenR ?_
                  refine At.doneR (ResV.tmp rfl ResV.nil) ?_
                  exact ⟨congrArg Ending.returned (congrArg Value.bool (by simp only [oneB, hc1, hc2, hc3, hc4, hc5, hc6, hg8, Bool.true_or, Bool.or_true, Bool.false_or, Bool.or_false, Bool.false_and, Bool.true_and, Bool.and_true, Bool.and_false, Bool.not_true, Bool.not_false, if_true, if_false, Bool.false_eq_true])), hB⟩
              · skip
                have hc6' := of_decide_eq_false hc6
                refine At.seq ?_
                refine At.region ?_
                refine At.eqI rfl rfl rfl ?_
                refine At.assign rfl rfl ?_
                refine At.ops0 ?_
                refine At.thenN ?_
                refine At.cond (b := decide (t.k = 5)) rfl (fun hc7 => ?_) (fun hc7 => ?_)
                · skip
                  have hc7' := of_decide_eq_true hc7
                  refine At.seq ?_
                  refine At.region ?_
                  refine At.move rfl rfl ?_
                  refine At.eqI rfl rfl rfl ?_
                  refine At.move rfl rfl ?_
                  refine At.cases (decide ((t.kids.length : Int) = 1)) (fun hg9 => ?_) (fun hg9 => ?_)
                  · skip
                    refine At.set (d := 77) (u := .bool true) rfl (congrArg Value.bool hg9) ?_
                    have hg9' := of_decide_eq_true hg9
                    refine At.yes rfl rfl rfl rfl ?_
                    refine At.move rfl rfl ?_
                    refine At.yes rfl rfl rfl rfl ?_
                    refine At.not rfl rfl ?_
                    refine At.pickT rfl rfl rfl ?_
                    refine At.assign rfl rfl ?_
                    refine At.ops0 ?_
                    refine At.thenN ?_
                    refine At.retc ?_
                    refine At.inR ?_
                    refine At.thenR ?_
                    refine At.doneR (ResV.tmp rfl ResV.nil) ?_
                    exact ⟨congrArg Ending.returned (congrArg Value.bool (by simp only [oneB, hc1, hc2, hc3, hc4, hc5, hc6, hc7, hg9, Bool.true_or, Bool.or_true, Bool.false_or, Bool.or_false, Bool.false_and, Bool.true_and, Bool.and_true, Bool.and_false, Bool.not_true, Bool.not_false, if_true, if_false, Bool.false_eq_true])), hB⟩
                  · skip
                    refine At.set (d := 77) (u := .bool false) rfl (congrArg Value.bool hg9) ?_
                    have hg9' := of_decide_eq_false hg9
                    refine At.no rfl rfl rfl rfl rfl rfl rfl ?_
                    refine At.no rfl rfl rfl rfl rfl rfl rfl ?_
                    refine At.pickF rfl rfl rfl ?_
                    refine At.assign rfl rfl ?_
                    refine At.ops0 ?_
                    refine At.thenN ?_
                    refine At.retc ?_
                    refine At.inR ?_
                    refine At.thenR ?_
                    refine At.doneR (ResV.tmp rfl ResV.nil) ?_
                    exact ⟨congrArg Ending.returned (congrArg Value.bool (by simp only [oneB, hc1, hc2, hc3, hc4, hc5, hc6, hc7, hg9, Bool.true_or, Bool.or_true, Bool.false_or, Bool.or_false, Bool.false_and, Bool.true_and, Bool.and_true, Bool.and_false, Bool.not_true, Bool.not_false, if_true, if_false, Bool.false_eq_true])), hB⟩
                · skip
                  have hc7' := of_decide_eq_false hc7
                  refine At.seq ?_
                  refine At.seq ?_
                  refine At.region ?_
                  refine At.eqI rfl rfl rfl ?_
                  refine At.assign rfl rfl ?_
                  refine At.ops0 ?_
                  refine At.thenN ?_
                  refine At.cond (b := decide (t.k = 6)) rfl (fun hc8 => ?_) (fun hc8 => ?_)
                  · skip
                    have hc8' := of_decide_eq_true hc8
                    refine At.set (d := 81) (u := .bool true) rfl (congrArg Value.bool hc8) ?_
                    refine At.skip ?_
                    refine At.thenN ?_
                    refine At.condT rfl ?_
                    refine At.seq ?_
                    refine At.region ?_
                    refine At.move rfl rfl ?_
                    refine At.eqI rfl rfl rfl ?_
                    refine At.move rfl rfl ?_
                    refine At.cases (decide ((t.kids.length : Int) = 2)) (fun hg10 => ?_) (fun hg10 => ?_)
                    · skip
                      refine At.set (d := 87) (u := .bool true) rfl (congrArg Value.bool hg10) ?_
                      have hg10' := of_decide_eq_true hg10
                      refine At.yes rfl rfl rfl rfl ?_
                      refine At.move rfl rfl ?_
                      refine At.yes rfl rfl rfl rfl ?_
                      refine At.not rfl rfl ?_
                      refine At.pickT rfl rfl rfl ?_
                      refine At.assign rfl rfl ?_
                      refine At.ops0 ?_
                      refine At.thenN ?_
                      refine At.retc ?_
                      refine At.inR ?_
                      refine At.thenR ?_
                      refine At.doneR (ResV.tmp rfl ResV.nil) ?_
                      exact ⟨congrArg Ending.returned (congrArg Value.bool (by simp only [oneB, hc1, hc2, hc3, hc4, hc5, hc6, hc7, hc8, hg10, Bool.true_or, Bool.or_true, Bool.false_or, Bool.or_false, Bool.false_and, Bool.true_and, Bool.and_true, Bool.and_false, Bool.not_true, Bool.not_false, if_true, if_false, Bool.false_eq_true])), hB⟩
                    · skip
                      refine At.set (d := 87) (u := .bool false) rfl (congrArg Value.bool hg10) ?_
                      have hg10' := of_decide_eq_false hg10
                      refine At.no rfl rfl rfl rfl rfl rfl rfl ?_
                      refine At.no rfl rfl rfl rfl rfl rfl rfl ?_
                      refine At.pickF rfl rfl rfl ?_
                      refine At.assign rfl rfl ?_
                      refine At.ops0 ?_
                      refine At.thenN ?_
                      refine At.retc ?_
                      refine At.inR ?_
                      refine At.thenR ?_
                      refine At.doneR (ResV.tmp rfl ResV.nil) ?_
                      exact ⟨congrArg Ending.returned (congrArg Value.bool (by simp only [oneB, hc1, hc2, hc3, hc4, hc5, hc6, hc7, hc8, hg10, Bool.true_or, Bool.or_true, Bool.false_or, Bool.or_false, Bool.false_and, Bool.true_and, Bool.and_true, Bool.and_false, Bool.not_true, Bool.not_false, if_true, if_false, Bool.false_eq_true])), hB⟩
                  · skip
                    have hc8' := of_decide_eq_false hc8
                    refine At.seq ?_
                    refine At.region ?_
                    refine At.eqI rfl rfl rfl ?_
                    refine At.assign rfl rfl ?_
                    refine At.ops0 ?_
                    refine At.thenN ?_
                    refine At.cond (b := decide (t.k = 7)) rfl (fun hc9 => ?_) (fun hc9 => ?_)
                    · skip
                      have hc9' := of_decide_eq_true hc9
                      refine At.set (d := 81) (u := .bool true) rfl (congrArg Value.bool hc9) ?_
                      refine At.skip ?_
                      refine At.thenN ?_
                      refine At.condT rfl ?_
                      refine At.seq ?_
                      refine At.region ?_
                      refine At.move rfl rfl ?_
                      refine At.eqI rfl rfl rfl ?_
                      refine At.move rfl rfl ?_
                      refine At.cases (decide ((t.kids.length : Int) = 2)) (fun hg11 => ?_) (fun hg11 => ?_)
                      · skip
                        refine At.set (d := 87) (u := .bool true) rfl (congrArg Value.bool hg11) ?_
                        have hg11' := of_decide_eq_true hg11
                        refine At.yes rfl rfl rfl rfl ?_
                        refine At.move rfl rfl ?_
                        refine At.yes rfl rfl rfl rfl ?_
                        refine At.not rfl rfl ?_
                        refine At.pickT rfl rfl rfl ?_
                        refine At.assign rfl rfl ?_
                        refine At.ops0 ?_
                        refine At.thenN ?_
                        refine At.retc ?_
                        refine At.inR ?_
                        refine At.thenR ?_
                        refine At.doneR (ResV.tmp rfl ResV.nil) ?_
                        exact ⟨congrArg Ending.returned (congrArg Value.bool (by simp only [oneB, hc1, hc2, hc3, hc4, hc5, hc6, hc7, hc8, hc9, hg11, Bool.true_or, Bool.or_true, Bool.false_or, Bool.or_false, Bool.false_and, Bool.true_and, Bool.and_true, Bool.and_false, Bool.not_true, Bool.not_false, if_true, if_false, Bool.false_eq_true])), hB⟩
                      · skip
                        refine At.set (d := 87) (u := .bool false) rfl (congrArg Value.bool hg11) ?_
                        have hg11' := of_decide_eq_false hg11
                        refine At.no rfl rfl rfl rfl rfl rfl rfl ?_
                        refine At.no rfl rfl rfl rfl rfl rfl rfl ?_
                        refine At.pickF rfl rfl rfl ?_
                        refine At.assign rfl rfl ?_
                        refine At.ops0 ?_
                        refine At.thenN ?_
                        refine At.retc ?_
                        refine At.inR ?_
                        refine At.thenR ?_
                        refine At.doneR (ResV.tmp rfl ResV.nil) ?_
                        exact ⟨congrArg Ending.returned (congrArg Value.bool (by simp only [oneB, hc1, hc2, hc3, hc4, hc5, hc6, hc7, hc8, hc9, hg11, Bool.true_or, Bool.or_true, Bool.false_or, Bool.or_false, Bool.false_and, Bool.true_and, Bool.and_true, Bool.and_false, Bool.not_true, Bool.not_false, if_true, if_false, Bool.false_eq_true])), hB⟩
                    · skip
                      have hc9' := of_decide_eq_false hc9
                      refine At.region ?_
                      refine At.eqI rfl rfl rfl ?_
                      refine At.assign rfl rfl ?_
                      refine At.ops0 ?_
                      refine At.thenN ?_
                      refine At.cond (b := decide (t.k = 8)) rfl (fun hc10 => ?_) (fun hc10 => ?_)
                      · skip
                        have hc10' := of_decide_eq_true hc10
                        refine At.seq ?_
                        refine At.region ?_
                        refine At.move rfl rfl ?_
                        refine At.eqI rfl rfl rfl ?_
                        refine At.move rfl rfl ?_
                        refine At.cases (decide ((t.kids.length : Int) = 2)) (fun hg12 => ?_) (fun hg12 => ?_)
                        · skip
                          refine At.set (d := 87) (u := .bool true) rfl (congrArg Value.bool hg12) ?_
                          have hg12' := of_decide_eq_true hg12
                          refine At.yes rfl rfl rfl rfl ?_
                          refine At.move rfl rfl ?_
                          refine At.yes rfl rfl rfl rfl ?_
                          refine At.not rfl rfl ?_
                          refine At.pickT rfl rfl rfl ?_
                          refine At.assign rfl rfl ?_
                          refine At.ops0 ?_
                          refine At.thenN ?_
                          refine At.retc ?_
                          refine At.inR ?_
                          refine At.thenR ?_
                          refine At.doneR (ResV.tmp rfl ResV.nil) ?_
                          exact ⟨congrArg Ending.returned (congrArg Value.bool (by simp only [oneB, hc1, hc2, hc3, hc4, hc5, hc6, hc7, hc8, hc9, hc10, hg12, Bool.true_or, Bool.or_true, Bool.false_or, Bool.or_false, Bool.false_and, Bool.true_and, Bool.and_true, Bool.and_false, Bool.not_true, Bool.not_false, if_true, if_false, Bool.false_eq_true])), hB⟩
                        · skip
                          refine At.set (d := 87) (u := .bool false) rfl (congrArg Value.bool hg12) ?_
                          have hg12' := of_decide_eq_false hg12
                          refine At.no rfl rfl rfl rfl rfl rfl rfl ?_
                          refine At.no rfl rfl rfl rfl rfl rfl rfl ?_
                          refine At.pickF rfl rfl rfl ?_
                          refine At.assign rfl rfl ?_
                          refine At.ops0 ?_
                          refine At.thenN ?_
                          refine At.retc ?_
                          refine At.inR ?_
                          refine At.thenR ?_
                          refine At.doneR (ResV.tmp rfl ResV.nil) ?_
                          exact ⟨congrArg Ending.returned (congrArg Value.bool (by simp only [oneB, hc1, hc2, hc3, hc4, hc5, hc6, hc7, hc8, hc9, hc10, hg12, Bool.true_or, Bool.or_true, Bool.false_or, Bool.or_false, Bool.false_and, Bool.true_and, Bool.and_true, Bool.and_false, Bool.not_true, Bool.not_false, if_true, if_false, Bool.false_eq_true])), hB⟩
                      · skip
                        have hc10' := of_decide_eq_false hc10
                        refine At.seq ?_
                        refine At.region ?_
                        refine At.eqI rfl rfl rfl ?_
                        refine At.assign rfl rfl ?_
                        refine At.ops0 ?_
                        refine At.thenN ?_
                        refine At.cond (b := decide (t.k = 9)) rfl (fun hc11 => ?_) (fun hc11 => ?_)
                        · skip
                          have hc11' := of_decide_eq_true hc11
                          refine At.seq ?_
                          refine At.region ?_
                          refine At.move rfl rfl ?_
                          refine At.eqI rfl rfl rfl ?_
                          refine At.move rfl rfl ?_
                          refine At.cases (decide ((t.kids.length : Int) = 3)) (fun hg13 => ?_) (fun hg13 => ?_)
                          · skip
                            refine At.set (d := 95) (u := .bool true) rfl (congrArg Value.bool hg13) ?_
                            have hg13' := of_decide_eq_true hg13
                            refine At.yes rfl rfl rfl rfl ?_
                            refine At.move rfl rfl ?_
                            refine At.yes rfl rfl rfl rfl ?_
                            refine At.not rfl rfl ?_
                            refine At.pickT rfl rfl rfl ?_
                            refine At.assign rfl rfl ?_
                            refine At.ops0 ?_
                            refine At.thenN ?_
                            refine At.retc ?_
                            refine At.inR ?_
                            refine At.thenR ?_
                            refine At.doneR (ResV.tmp rfl ResV.nil) ?_
                            exact ⟨congrArg Ending.returned (congrArg Value.bool (by simp only [oneB, hc1, hc2, hc3, hc4, hc5, hc6, hc7, hc8, hc9, hc10, hc11, hg13, Bool.true_or, Bool.or_true, Bool.false_or, Bool.or_false, Bool.false_and, Bool.true_and, Bool.and_true, Bool.and_false, Bool.not_true, Bool.not_false, if_true, if_false, Bool.false_eq_true])), hB⟩
                          · skip
                            refine At.set (d := 95) (u := .bool false) rfl (congrArg Value.bool hg13) ?_
                            have hg13' := of_decide_eq_false hg13
                            refine At.no rfl rfl rfl rfl rfl rfl rfl ?_
                            refine At.no rfl rfl rfl rfl rfl rfl rfl ?_
                            refine At.pickF rfl rfl rfl ?_
                            refine At.assign rfl rfl ?_
                            refine At.ops0 ?_
                            refine At.thenN ?_
                            refine At.retc ?_
                            refine At.inR ?_
                            refine At.thenR ?_
                            refine At.doneR (ResV.tmp rfl ResV.nil) ?_
                            exact ⟨congrArg Ending.returned (congrArg Value.bool (by simp only [oneB, hc1, hc2, hc3, hc4, hc5, hc6, hc7, hc8, hc9, hc10, hc11, hg13, Bool.true_or, Bool.or_true, Bool.false_or, Bool.or_false, Bool.false_and, Bool.true_and, Bool.and_true, Bool.and_false, Bool.not_true, Bool.not_false, if_true, if_false, Bool.false_eq_true])), hB⟩
                        · skip
                          have hc11' := of_decide_eq_false hc11
                          refine At.seq ?_
                          refine At.region ?_
                          refine At.eqI rfl rfl rfl ?_
                          refine At.assign rfl rfl ?_
                          refine At.ops0 ?_
                          refine At.thenN ?_
                          refine At.cond (b := decide (t.k = 10)) rfl (fun hc12 => ?_) (fun hc12 => ?_)
                          · skip
                            have hc12' := of_decide_eq_true hc12
                            refine At.seq ?_
                            refine At.region ?_
                            refine At.fieldAddr rfl fo33_2 rfl ?_
                            refine At.load rfl (Ld.ownCell ag9 hb2 (ht).c2) rfl ?_
                            refine At.call en20 rfl rfl (prims_any t.nm _) (fun e w' hR => ?_)
                            obtain ⟨rfl, rfl⟩ := hR
                            refine ⟨_, rfl, ?_⟩
                            refine At.move rfl rfl ?_
                            refine At.extract rfl rfl rfl ?_
                            refine At.extract rfl rfl rfl ?_
                            refine At.assign rfl rfl ?_
                            refine At.assign rfl rfl ?_
                            refine At.ops0 ?_
                            refine At.thenN ?_
                            refine At.seq ?_
                            refine At.region ?_
                            refine At.move rfl rfl ?_
                            refine At.move rfl rfl ?_
                            refine At.cases ((primN t.nm).2) (fun hg14 => ?_) (fun hg14 => ?_)
                            · skip
                              refine At.set (d := 108) (u := .bool true) rfl (congrArg Value.bool hg14) ?_
                              refine At.yes rfl rfl rfl rfl ?_
                              refine At.move rfl rfl ?_
                              refine At.yes rfl rfl rfl rfl ?_
                              refine At.move rfl rfl ?_
                              refine At.yes rfl rfl rfl rfl ?_
                              refine At.eqI rfl rfl rfl ?_
                              refine At.pickT rfl rfl rfl ?_
                              refine At.move rfl rfl ?_
                              refine At.cases (decide ((t.kids.length : Int) = (primN t.nm).1)) (fun hg15 => ?_) (fun hg15 => ?_)
                              · skip
                                refine At.set (d := 113) (u := .bool true) rfl (congrArg Value.bool hg15) ?_
                                have hg15' := of_decide_eq_true hg15
                                refine At.yes rfl rfl rfl rfl ?_
                                refine At.move rfl rfl ?_
                                refine At.yes rfl rfl rfl rfl ?_
                                refine At.not rfl rfl ?_
                                refine At.pickT rfl rfl rfl ?_
                                refine At.assign rfl rfl ?_
                                refine At.ops0 ?_
                                refine At.thenN ?_
                                refine At.retc ?_
                                refine At.inR ?_
                                refine At.thenR ?_
                                refine At.doneR (ResV.tmp rfl ResV.nil) ?_
                                exact ⟨congrArg Ending.returned (congrArg Value.bool (by simp only [oneB, hc1, hc2, hc3, hc4, hc5, hc6, hc7, hc8, hc9, hc10, hc11, hc12, hg14, hg15, Bool.true_or, Bool.or_true, Bool.false_or, Bool.or_false, Bool.false_and, Bool.true_and, Bool.and_true, Bool.and_false, Bool.not_true, Bool.not_false, if_true, if_false, Bool.false_eq_true])), hB⟩
                              · skip
                                refine At.set (d := 113) (u := .bool false) rfl (congrArg Value.bool hg15) ?_
                                have hg15' := of_decide_eq_false hg15
                                refine At.no rfl rfl rfl rfl rfl rfl rfl ?_
                                refine At.no rfl rfl rfl rfl rfl rfl rfl ?_
                                refine At.pickF rfl rfl rfl ?_
                                refine At.assign rfl rfl ?_
                                refine At.ops0 ?_
                                refine At.thenN ?_
                                refine At.retc ?_
                                refine At.inR ?_
                                refine At.thenR ?_
                                refine At.doneR (ResV.tmp rfl ResV.nil) ?_
                                exact ⟨congrArg Ending.returned (congrArg Value.bool (by simp only [oneB, hc1, hc2, hc3, hc4, hc5, hc6, hc7, hc8, hc9, hc10, hc11, hc12, hg14, hg15, Bool.true_or, Bool.or_true, Bool.false_or, Bool.or_false, Bool.false_and, Bool.true_and, Bool.and_true, Bool.and_false, Bool.not_true, Bool.not_false, if_true, if_false, Bool.false_eq_true])), hB⟩
                            · skip
                              refine At.set (d := 108) (u := .bool false) rfl (congrArg Value.bool hg14) ?_
                              refine At.no rfl rfl rfl rfl rfl rfl rfl ?_
                              refine At.no rfl rfl rfl rfl rfl rfl rfl ?_
                              refine At.no rfl rfl rfl rfl rfl rfl rfl ?_
                              refine At.pickF rfl rfl rfl ?_
                              refine At.move rfl rfl ?_
                              refine At.no rfl rfl rfl rfl rfl rfl rfl ?_
                              refine At.no rfl rfl rfl rfl rfl rfl rfl ?_
                              refine At.pickF rfl rfl rfl ?_
                              refine At.assign rfl rfl ?_
                              refine At.ops0 ?_
                              refine At.thenN ?_
                              refine At.retc ?_
                              refine At.inR ?_
                              refine At.thenR ?_
                              refine At.doneR (ResV.tmp rfl ResV.nil) ?_
                              exact ⟨congrArg Ending.returned (congrArg Value.bool (by simp only [oneB, hc1, hc2, hc3, hc4, hc5, hc6, hc7, hc8, hc9, hc10, hc11, hc12, hg14, Bool.true_or, Bool.or_true, Bool.false_or, Bool.or_false, Bool.false_and, Bool.true_and, Bool.and_true, Bool.and_false, Bool.not_true, Bool.not_false, if_true, if_false, Bool.false_eq_true])), hB⟩
                          · skip
                            have hc12' := of_decide_eq_false hc12
                            refine At.seq ?_
                            refine At.region ?_
                            refine At.eqI rfl rfl rfl ?_
                            refine At.assign rfl rfl ?_
                            refine At.ops0 ?_
                            refine At.thenN ?_
                            refine At.cond (b := decide (t.k = 11)) rfl (fun hc13 => ?_) (fun hc13 => ?_)
                            · skip
                              have hc13' := of_decide_eq_true hc13
                              refine At.seq ?_
                              refine At.region ?_
                              refine At.fieldAddr rfl fo75_0 rfl ?_
                              refine At.load rfl (Ld.own ag35 (sz35.trans (congrArg some (hp).size.symm)) hb1) rfl ?_
                              refine At.fieldAddr rfl fo33_2 rfl ?_
                              refine At.load rfl (Ld.ownCell ag9 hb2 (ht).c2) rfl ?_
                              refine At.call en18 rfl rfl (con_any p t.nm _ ((hp).keep hB) hz.hl hz.ho hz.hc) (fun e w6 hR => ?_)
                              obtain ⟨rfl, hbl3⟩ := hR
                              refine ⟨_, rfl, ?_⟩
                              replace hb1 := Below.old hbl3 hb1
                              replace hb2 := Below.old hbl3 hb2
                              replace hB := Below.andThen hB hbl3
                              refine At.move rfl rfl ?_
                              refine At.extract rfl rfl rfl ?_
                              refine At.extract rfl rfl rfl ?_
                              refine At.extract rfl rfl rfl ?_
                              refine At.alloc ze52 rfl (fun b3 w7 F3 => ?_)
                              have n_b1_b3 : b1 ≠ b3 := Nat.ne_of_lt (F3.lt hb1)
                              have n_b2_b3 : b2 ≠ b3 := Nat.ne_of_lt (F3.lt hb2)
                              have gb3 := F3.ge hB
                              replace hb1 := F3.old hb1
                              replace hb2 := F3.old hb2
                              have hb3 : w7.heap[b3]? = some (.cells #[.string (⟨#[]⟩ : ByteArray), (.slice none 0 0)] 52) := F3.new
                              replace hB := F3.below' hB
                              refine At.alloc ze54 rfl (fun b4 w8 F4 => ?_)
                              have n_b1_b4 : b1 ≠ b4 := Nat.ne_of_lt (F4.lt hb1)
                              have n_b2_b4 : b2 ≠ b4 := Nat.ne_of_lt (F4.lt hb2)
                              have n_b3_b4 : b3 ≠ b4 := Nat.ne_of_lt (F4.lt hb3)
                              have gb4 := F4.ge hB
                              replace hb1 := F4.old hb1
                              replace hb2 := F4.old hb2
                              replace hb3 := F4.old hb3
                              have hb4 : w8.heap[b4]? = some (.cells #[.string (⟨#[]⟩ : ByteArray), (.slice none 0 0)] 54) := F4.new
                              replace hB := F4.below' hB
                              refine At.storeAll rfl rfl hb3 (sz52.trans (congrArg some ((datE_ok hp t.nm)).size.symm)) ((datE_ok hp t.nm)).size.symm ((datE_ok hp t.nm)).one (fun w9 S1 => ?_)
                              replace hb1 := S1.other hb1 n_b1_b3
                              replace hb2 := S1.other hb2 n_b2_b3
                              replace hb4 := S1.other hb4 n_b3_b4.symm
                              replace hb3 : w9.heap[b3]? = some (.cells (datE (findCon p.dats t.nm)).cs 52) := S1.new
                              replace hB := S1.below' hB gb3
                              refine At.storeAll rfl rfl hb4 (sz54.trans (congrArg some ((cnE_ok hp t.nm)).size.symm)) ((cnE_ok hp t.nm)).size.symm ((cnE_ok hp t.nm)).one (fun w10 S2 => ?_)
                              replace hb1 := S2.other hb1 n_b1_b4
                              replace hb2 := S2.other hb2 n_b2_b4
                              replace hb3 := S2.other hb3 n_b3_b4
                              replace hb4 : w10.heap[b4]? = some (.cells (cnE (findCon p.dats t.nm)).cs 54) := S2.new
                              replace hB := S2.below' hB gb4
                              refine At.assign rfl rfl ?_
                              refine At.ops0 ?_
                              refine At.thenN ?_
                              refine At.seq ?_
                              refine At.region ?_
                              refine At.move rfl rfl ?_
                              refine At.move rfl rfl ?_
                              refine At.cases ((findCon p.dats t.nm).isSome) (fun hg16 => ?_) (fun hg16 => ?_)
                              · skip
                                refine At.set (d := 129) (u := .bool true) rfl (congrArg Value.bool hg16) ?_
                                refine At.yes rfl rfl rfl rfl ?_
                                refine At.move rfl rfl ?_
                                refine At.yes rfl rfl rfl rfl ?_
                                refine At.fieldAddr rfl fo54_1 rfl ?_
                                refine At.yes rfl rfl rfl rfl ?_
                                refine At.load rfl (Ld.ownCell ag26 hb4 ((cnE_ok hp t.nm)).c1) rfl ?_
                                refine At.yes rfl rfl rfl rfl ?_
                                refine At.lenSl rfl (((cnE_ok hp t.nm)).fieldsAt).okL el26 rfl ?_
                                refine At.yes rfl rfl rfl rfl ?_
                                refine At.eqI rfl rfl rfl ?_
                                refine At.pickT rfl rfl rfl ?_
                                refine At.move rfl rfl ?_
                                refine At.cases (decide ((t.kids.length : Int) = ((cnE (findCon p.dats t.nm)).fields.length : Int))) (fun hg17 => ?_) (fun hg17 => ?_)
                                · skip
                                  refine At.set (d := 136) (u := .bool true) rfl (congrArg Value.bool hg17) ?_
                                  have hg17' := of_decide_eq_true hg17
                                  refine At.yes rfl rfl rfl rfl ?_
                                  refine At.move rfl rfl ?_
                                  refine At.yes rfl rfl rfl rfl ?_
                                  refine At.not rfl rfl ?_
                                  refine At.pickT rfl rfl rfl ?_
                                  refine At.assign rfl rfl ?_
                                  refine At.ops0 ?_
                                  refine At.thenN ?_
                                  refine At.retc ?_
                                  refine At.inR ?_
                                  refine At.thenR ?_
                                  refine At.doneR (ResV.tmp rfl ResV.nil) ?_
                                  exact ⟨congrArg Ending.returned (congrArg Value.bool (by simp only [oneB, hc1, hc2, hc3, hc4, hc5, hc6, hc7, hc8, hc9, hc10, hc11, hc12, hc13, hg16, hg17, Bool.true_or, Bool.or_true, Bool.false_or, Bool.or_false, Bool.false_and, Bool.true_and, Bool.and_true, Bool.and_false, Bool.not_true, Bool.not_false, if_true, if_false, Bool.false_eq_true])), hB⟩
                                · skip
                                  refine At.set (d := 136) (u := .bool false) rfl (congrArg Value.bool hg17) ?_
                                  have hg17' := of_decide_eq_false hg17
                                  refine At.no rfl rfl rfl rfl rfl rfl rfl ?_
                                  refine At.no rfl rfl rfl rfl rfl rfl rfl ?_
                                  refine At.pickF rfl rfl rfl ?_
                                  refine At.assign rfl rfl ?_
                                  refine At.ops0 ?_
                                  refine At.thenN ?_
                                  refine At.retc ?_
                                  refine At.inR ?_
                                  refine At.thenR ?_
                                  refine At.doneR (ResV.tmp rfl ResV.nil) ?_
                                  exact ⟨congrArg Ending.returned (congrArg Value.bool (by simp only [oneB, hc1, hc2, hc3, hc4, hc5, hc6, hc7, hc8, hc9, hc10, hc11, hc12, hc13, hg16, hg17, Bool.true_or, Bool.or_true, Bool.false_or, Bool.or_false, Bool.false_and, Bool.true_and, Bool.and_true, Bool.and_false, Bool.not_true, Bool.not_false, if_true, if_false, Bool.false_eq_true])), hB⟩
                              · skip
                                refine At.set (d := 129) (u := .bool false) rfl (congrArg Value.bool hg16) ?_
                                refine At.no rfl rfl rfl rfl rfl rfl rfl ?_
                                refine At.no rfl rfl rfl rfl rfl rfl rfl ?_
                                refine At.no rfl rfl rfl rfl rfl rfl rfl ?_
                                refine At.no rfl rfl rfl rfl rfl rfl rfl ?_
                                refine At.no rfl rfl rfl rfl rfl rfl rfl ?_
                                refine At.pickF rfl rfl rfl ?_
                                refine At.move rfl rfl ?_
                                refine At.no rfl rfl rfl rfl rfl rfl rfl ?_
                                refine At.no rfl rfl rfl rfl rfl rfl rfl ?_
                                refine At.pickF rfl rfl rfl ?_
                                refine At.assign rfl rfl ?_
                                refine At.ops0 ?_
                                refine At.thenN ?_
                                refine At.retc ?_
                                refine At.inR ?_
                                refine At.thenR ?_
                                refine At.doneR (ResV.tmp rfl ResV.nil) ?_
                                exact ⟨congrArg Ending.returned (congrArg Value.bool (by simp only [oneB, hc1, hc2, hc3, hc4, hc5, hc6, hc7, hc8, hc9, hc10, hc11, hc12, hc13, hg16, Bool.true_or, Bool.or_true, Bool.false_or, Bool.or_false, Bool.false_and, Bool.true_and, Bool.and_true, Bool.and_false, Bool.not_true, Bool.not_false, if_true, if_false, Bool.false_eq_true])), hB⟩
                            · skip
                              have hc13' := of_decide_eq_false hc13
                              refine At.seq ?_
                              refine At.region ?_
                              refine At.eqI rfl rfl rfl ?_
                              refine At.assign rfl rfl ?_
                              refine At.ops0 ?_
                              refine At.thenN ?_
                              refine At.cond (b := decide (t.k = 13)) rfl (fun hc14 => ?_) (fun hc14 => ?_)
                              · skip
                                have hc14' := of_decide_eq_true hc14
                                refine At.seq ?_
                                refine At.region ?_
                                refine At.fieldAddr rfl fo75_0 rfl ?_
                                refine At.load rfl (Ld.own ag35 (sz35.trans (congrArg some (hp).size.symm)) hb1) rfl ?_
                                refine At.fieldAddr rfl fo33_2 rfl ?_
                                refine At.load rfl (Ld.ownCell ag9 hb2 (ht).c2) rfl ?_
                                refine At.call en14 rfl rfl (effect_any p t.nm _ ((hp).keep hB) hz.hl hz.ho hz.hc) (fun e w11 hR => ?_)
                                obtain ⟨rfl, hbl4⟩ := hR
                                refine ⟨_, rfl, ?_⟩
                                replace hb1 := Below.old hbl4 hb1
                                replace hb2 := Below.old hbl4 hb2
                                replace hB := Below.andThen hB hbl4
                                refine At.move rfl rfl ?_
                                refine At.extract rfl rfl rfl ?_
                                refine At.extract rfl rfl rfl ?_
                                refine At.extract rfl rfl rfl ?_
                                refine At.alloc ze43 rfl (fun b5 w12 F5 => ?_)
                                have n_b1_b5 : b1 ≠ b5 := Nat.ne_of_lt (F5.lt hb1)
                                have n_b2_b5 : b2 ≠ b5 := Nat.ne_of_lt (F5.lt hb2)
                                have gb5 := F5.ge hB
                                replace hb1 := F5.old hb1
                                replace hb2 := F5.old hb2
                                have hb5 : w12.heap[b5]? = some (.cells #[.string (⟨#[]⟩ : ByteArray), (.slice none 0 0)] 43) := F5.new
                                replace hB := F5.below' hB
                                refine At.alloc ze45 rfl (fun b6 w13 F6 => ?_)
                                have n_b1_b6 : b1 ≠ b6 := Nat.ne_of_lt (F6.lt hb1)
                                have n_b2_b6 : b2 ≠ b6 := Nat.ne_of_lt (F6.lt hb2)
                                have n_b5_b6 : b5 ≠ b6 := Nat.ne_of_lt (F6.lt hb5)
                                have gb6 := F6.ge hB
                                replace hb1 := F6.old hb1
                                replace hb2 := F6.old hb2
                                replace hb5 := F6.old hb5
                                have hb6 : w13.heap[b6]? = some (.cells #[.string (⟨#[]⟩ : ByteArray), .int .i64 0, .string (⟨#[]⟩ : ByteArray), .int .i64 0, (.slice none 0 0), (.slice none 0 0), .int .i64 0, .int .i64 0, .string (⟨#[]⟩ : ByteArray), .int .i64 0, (.slice none 0 0), (.slice none 0 0), .int .i64 0] 45) := F6.new
                                replace hB := F6.below' hB
                                refine At.storeAll rfl rfl hb5 (sz43.trans (congrArg some ((effE_ok hp t.nm)).size.symm)) ((effE_ok hp t.nm)).size.symm ((effE_ok hp t.nm)).one (fun w14 S3 => ?_)
                                replace hb1 := S3.other hb1 n_b1_b5
                                replace hb2 := S3.other hb2 n_b2_b5
                                replace hb6 := S3.other hb6 n_b5_b6.symm
                                replace hb5 : w14.heap[b5]? = some (.cells (effE (findEff p.effs t.nm)).cs 43) := S3.new
                                replace hB := S3.below' hB gb5
                                refine At.storeAll rfl rfl hb6 (sz45.trans (congrArg some ((opE_ok hp t.nm)).size.symm)) ((opE_ok hp t.nm)).size.symm ((opE_ok hp t.nm)).one (fun w15 S4 => ?_)
                                replace hb1 := S4.other hb1 n_b1_b6
                                replace hb2 := S4.other hb2 n_b2_b6
                                replace hb5 := S4.other hb5 n_b5_b6
                                replace hb6 : w15.heap[b6]? = some (.cells (opE (findEff p.effs t.nm)).cs 45) := S4.new
                                replace hB := S4.below' hB gb6
                                refine At.assign rfl rfl ?_
                                refine At.ops0 ?_
                                refine At.thenN ?_
                                refine At.seq ?_
                                refine At.region ?_
                                refine At.move rfl rfl ?_
                                refine At.move rfl rfl ?_
                                refine At.cases ((findEff p.effs t.nm).isSome) (fun hg18 => ?_) (fun hg18 => ?_)
                                · skip
                                  refine At.set (d := 152) (u := .bool true) rfl (congrArg Value.bool hg18) ?_
                                  refine At.yes rfl rfl rfl rfl ?_
                                  refine At.move rfl rfl ?_
                                  refine At.yes rfl rfl rfl rfl ?_
                                  refine At.eqI rfl rfl rfl ?_
                                  refine At.pickT rfl rfl rfl ?_
                                  refine At.move rfl rfl ?_
                                  refine At.cases (decide ((t.kids.length : Int) = 1)) (fun hg19 => ?_) (fun hg19 => ?_)
                                  · skip
                                    refine At.set (d := 156) (u := .bool true) rfl (congrArg Value.bool hg19) ?_
                                    have hg19' := of_decide_eq_true hg19
                                    refine At.yes rfl rfl rfl rfl ?_
                                    refine At.move rfl rfl ?_
                                    refine At.yes rfl rfl rfl rfl ?_
                                    refine At.not rfl rfl ?_
                                    refine At.pickT rfl rfl rfl ?_
                                    refine At.assign rfl rfl ?_
                                    refine At.ops0 ?_
                                    refine At.thenN ?_
                                    refine At.retc ?_
                                    refine At.inR ?_
                                    refine At.thenR ?_
                                    refine At.doneR (ResV.tmp rfl ResV.nil) ?_
                                    exact ⟨congrArg Ending.returned (congrArg Value.bool (by simp only [oneB, hc1, hc2, hc3, hc4, hc5, hc6, hc7, hc8, hc9, hc10, hc11, hc12, hc13, hc14, hg18, hg19, Bool.true_or, Bool.or_true, Bool.false_or, Bool.or_false, Bool.false_and, Bool.true_and, Bool.and_true, Bool.and_false, Bool.not_true, Bool.not_false, if_true, if_false, Bool.false_eq_true])), hB⟩
                                  · skip
                                    refine At.set (d := 156) (u := .bool false) rfl (congrArg Value.bool hg19) ?_
                                    have hg19' := of_decide_eq_false hg19
                                    refine At.no rfl rfl rfl rfl rfl rfl rfl ?_
                                    refine At.no rfl rfl rfl rfl rfl rfl rfl ?_
                                    refine At.pickF rfl rfl rfl ?_
                                    refine At.assign rfl rfl ?_
                                    refine At.ops0 ?_
                                    refine At.thenN ?_
                                    refine At.retc ?_
                                    refine At.inR ?_
                                    refine At.thenR ?_
                                    refine At.doneR (ResV.tmp rfl ResV.nil) ?_
                                    exact ⟨congrArg Ending.returned (congrArg Value.bool (by simp only [oneB, hc1, hc2, hc3, hc4, hc5, hc6, hc7, hc8, hc9, hc10, hc11, hc12, hc13, hc14, hg18, hg19, Bool.true_or, Bool.or_true, Bool.false_or, Bool.or_false, Bool.false_and, Bool.true_and, Bool.and_true, Bool.and_false, Bool.not_true, Bool.not_false, if_true, if_false, Bool.false_eq_true])), hB⟩
                                · skip
                                  refine At.set (d := 152) (u := .bool false) rfl (congrArg Value.bool hg18) ?_
                                  refine At.no rfl rfl rfl rfl rfl rfl rfl ?_
                                  refine At.no rfl rfl rfl rfl rfl rfl rfl ?_
                                  refine At.pickF rfl rfl rfl ?_
                                  refine At.move rfl rfl ?_
                                  refine At.no rfl rfl rfl rfl rfl rfl rfl ?_
                                  refine At.no rfl rfl rfl rfl rfl rfl rfl ?_
                                  refine At.pickF rfl rfl rfl ?_
                                  refine At.assign rfl rfl ?_
                                  refine At.ops0 ?_
                                  refine At.thenN ?_
                                  refine At.retc ?_
                                  refine At.inR ?_
                                  refine At.thenR ?_
                                  refine At.doneR (ResV.tmp rfl ResV.nil) ?_
                                  exact ⟨congrArg Ending.returned (congrArg Value.bool (by simp only [oneB, hc1, hc2, hc3, hc4, hc5, hc6, hc7, hc8, hc9, hc10, hc11, hc12, hc13, hc14, hg18, Bool.true_or, Bool.or_true, Bool.false_or, Bool.or_false, Bool.false_and, Bool.true_and, Bool.and_true, Bool.and_false, Bool.not_true, Bool.not_false, if_true, if_false, Bool.false_eq_true])), hB⟩
                              · skip
                                have hc14' := of_decide_eq_false hc14
                                refine At.skip ?_
                                refine At.inN ?_
                                refine At.thenN ?_
                                refine At.seq ?_
                                refine At.region ?_
                                refine At.assign rfl rfl ?_
                                refine At.ops0 ?_
                                refine At.thenN ?_
                                refine At.retc ?_
                                refine At.doneR (ResV.tmp rfl ResV.nil) ?_
                                exact ⟨congrArg Ending.returned (congrArg Value.bool (by simp only [oneB, hc1, hc2, hc3, hc4, hc5, hc6, hc7, hc8, hc9, hc10, hc11, hc12, hc13, hc14, Bool.true_or, Bool.or_true, Bool.false_or, Bool.or_false, Bool.false_and, Bool.true_and, Bool.and_true, Bool.and_false, Bool.not_true, Bool.not_false, if_true, if_false, Bool.false_eq_true])), hB⟩
theorem term_step (p : Pr) (hz : PrSz p) (t : Tm) (v : Value) (bound : List ByteArray) (w : World) (hp : PrOk w p) (ht : TmOk w t) (hv : StrsAt w v bound) (hl : bound.length + wtT t ≤ 4398046511104)
    (ih : ∀ (u : Tm), wtT u < wtT t → ∀ (v : Value) (bound : List ByteArray) (w : World), PrOk w p → TmOk w u → StrsAt w v bound → bound.length + wtT u ≤ 4398046511104 → Calls Try.prog 28 ([.agg p.cs, .agg u.cs, v] : List Value).toArray w fun e w' => e = .returned (termE (termS p bound u)) ∧ Below w.heap.size w w') :
    Calls Try.prog 28 ([.agg p.cs, .agg t.cs, v] : List Value).toArray w fun e w' => e = .returned (termE (termS p bound t)) ∧ Below w.heap.size w w' := by
  have hB := Below.refl w.heap.size w
  refine At.enter (N := 69) Try.func28 rfl rfl (by simp) [(0, .agg p.cs), (1, .agg t.cs), (2, v)] (by simp) ?_
  refine At.seq ?_
  refine At.region ?_
  refine At.box rfl rfl (fun b1 w1 F1 => ?_)
  have gb1 := F1.ge hB
  have hb1 : w1.heap[b1]? = some (.cells p.cs 75) := F1.new
  replace hB := F1.below' hB
  refine At.box rfl rfl (fun b2 w2 F2 => ?_)
  have n_b1_b2 : b1 ≠ b2 := Nat.ne_of_lt (F2.lt hb1)
  have gb2 := F2.ge hB
  replace hb1 := F2.old hb1
  have hb2 : w2.heap[b2]? = some (.cells t.cs 33) := F2.new
  replace hB := F2.below' hB
  refine At.assign rfl rfl ?_
  refine At.assign rfl rfl ?_
  refine At.ops0 ?_
  refine At.thenN ?_
  refine At.seq ?_
  refine At.seq ?_
  refine At.region ?_
  refine At.load rfl (Ld.own ag75 (sz75.trans (congrArg some (hp).size.symm)) hb1) rfl ?_
  refine At.load rfl (Ld.own ag33 (sz33.trans (congrArg some (ht).size.symm)) hb2) rfl ?_
  refine At.move rfl rfl ?_
  refine At.call en41 rfl rfl (one_any p t v bound _ ((hp).keep hB) hz ((ht).keep hB) ((hv).keep hB) (by omega)) (fun e w3 hR => ?_)
  obtain ⟨rfl, hbl1⟩ := hR
  refine ⟨_, rfl, ?_⟩
  replace hb1 := Below.old hbl1 hb1
  replace hb2 := Below.old hbl1 hb2
  replace hB := Below.andThen hB hbl1
  refine At.not rfl rfl ?_
  refine At.ops0 ?_
  refine At.thenN ?_
  refine At.cond (b := (!(oneB p t bound))) rfl (fun hc1 => ?_) (fun hc1 => ?_)
  · skip
    refine At.seq ?_
    refine At.region ?_
    refine At.fieldAddr rfl fo33_1 rfl ?_
    refine At.load rfl (Ld.ownCell ag3 hb2 (ht).c1) rfl ?_
    refine At.assign rfl rfl ?_
    refine At.assign rfl rfl ?_
    refine At.ops0 ?_
    refine At.thenN ?_
    refine At.retc ?_
    refine At.thenR ?_
    refine At.doneR (ResV.tmp rfl (ResV.tmp rfl ResV.nil)) ?_
    exact ⟨congrArg Ending.returned (by rw [termS_no (by simpa using hc1)]; rfl), hB⟩
  · skip
    refine At.skip ?_
    refine At.thenN ?_
    refine At.seq ?_
    refine At.seq ?_
    refine At.region ?_
    refine At.fieldAddr rfl fo33_5 rfl ?_
    refine At.load rfl (Ld.ownCell ag24 hb2 (ht).c5) rfl ?_
    refine At.lenSl rfl ((ht).kidsAt).okL el24 rfl ?_
    refine At.move rfl rfl ?_
    refine At.ops0 ?_
    refine At.thenN ?_
    refine At.block ?_
    refine At.loop (Nat) (fun k => [(2, v), (3, .pointer (some ⟨b1, 0, none⟩)), (4, .pointer (some ⟨b2, 0, none⟩)), (24, t.kv), (25, .int .i64 (t.kids.length : Int)), (26, .int .i64 (k : Int))]) (fun k w4 => Below w.heap.size w w4 ∧ w4.heap[b1]? = some (.cells p.cs 75) ∧ w4.heap[b2]? = some (.cells t.cs 33) ∧ (k ≤ t.kids.length) ∧ (kidsS p t.k t.nm t.pm bound k (t.kids.drop k) = kidsS p t.k t.nm t.pm bound 0 t.kids)) (fun k => t.kids.length - k) (0 : Nat) (Sub.cons rfl (Sub.cons rfl (Sub.cons rfl (Sub.cons rfl (Sub.cons rfl (Sub.cons rfl Sub.nil)))))) ⟨hB, hb1, hb2, (Nat.zero_le _), (rfl)⟩ (fun k w4 hI => ?_)
    clear hB hb1 hb2
    obtain ⟨hB, hb1, hb2, hkb, hn⟩ := hI
    show At _ _ [(2, v), (3, .pointer (some ⟨b1, 0, none⟩)), (4, .pointer (some ⟨b2, 0, none⟩)), (24, t.kv), (25, .int .i64 (t.kids.length : Int)), (26, .int .i64 (k : Int))] _ _
    refine At.seq ?_
    refine At.region ?_
    refine At.lss rfl rfl rfl ?_
    refine At.ops0 ?_
    refine At.thenN ?_
    refine At.seq ?_
    refine At.cond (b := decide ((k : Int) < (t.kids.length : Int))) rfl (fun hc2 => ?_) (fun hc2 => ?_)
    · skip
      have hc2' := of_decide_eq_true hc2
      refine At.skip ?_
      refine At.thenN ?_
      refine At.seq ?_
      refine At.block ?_
      refine At.seq ?_
      refine At.region ?_
      refine At.move rfl rfl ?_
      obtain ⟨u1, hu1⟩ := some_of_lt (l := t.kids) (i := k) (by have := wt_kids t; have := wt_arms t; omega)
      refine At.indexAddr (i := k) rfl rfl ((ht).kidsAt).okL (lt_of_some hu1) el24 sz33 rfl ?_
      refine At.load rfl (Ld.row ag33 (sz33.trans (congrArg some (((ht).kid hu1)).size.symm)) ((((ht).kidsAt).row hu1).keep hB)) rfl ?_
      refine At.alloc ze33 rfl (fun b3 w5 F3 => ?_)
      have n_b1_b3 : b1 ≠ b3 := Nat.ne_of_lt (F3.lt hb1)
      have n_b2_b3 : b2 ≠ b3 := Nat.ne_of_lt (F3.lt hb2)
      have gb3 := F3.ge hB
      replace hb1 := F3.old hb1
      replace hb2 := F3.old hb2
      have hb3 : w5.heap[b3]? = some (.cells #[.int .i64 0, .int .i64 0, .string (⟨#[]⟩ : ByteArray), .string (⟨#[]⟩ : ByteArray), .int .i64 0, (.slice none 0 0), (.slice none 0 0), .int .i64 0, .string (⟨#[]⟩ : ByteArray), .int .i64 0, (.slice none 0 0), (.slice none 0 0), .int .i64 0, (.slice none 0 0), .int .i64 0, .int .i64 0, .string (⟨#[]⟩ : ByteArray), .int .i64 0, (.slice none 0 0), (.slice none 0 0), .int .i64 0] 33) := F3.new
      replace hB := F3.below' hB
      refine At.assign rfl rfl ?_
      refine At.storeAll rfl rfl hb3 (sz33.trans (congrArg some (((ht).kid hu1)).size.symm)) (((ht).kid hu1)).size.symm (((ht).kid hu1)).one (fun w6 S1 => ?_)
      replace hb1 := S1.other hb1 n_b1_b3
      replace hb2 := S1.other hb2 n_b2_b3
      replace hb3 : w6.heap[b3]? = some (.cells u1.cs 33) := S1.new
      replace hB := S1.below' hB gb3
      refine At.ops0 ?_
      refine At.thenN ?_
      refine At.seq ?_
      have hw := wt_kid (List.mem_of_getElem? hu1)
      have hlt : wtT u1 < wtT t := by omega
      have hil := insideB_len t.k t.nm t.pm k bound
      refine At.drawG (n := 12) mixed (by kernel_rfl) rfl (PanicOk.then (PanicOk.block (PanicOk.then (PanicOk.then (PanicOk.block (PanicOk.then PanicOk.body)))))) ?_
      have hB := Below.drewB hB
      have hb1 : _ := (show w6.drew.heap[b1]? = _ from hb1)
      have hb2 : _ := (show w6.drew.heap[b2]? = _ from hb2)
      have hb3 : _ := (show w6.drew.heap[b3]? = _ from hb3)
      refine At.wpcS (i := 0) (d := 32) (.agg p.cs) (by kernel_rfl) rfl rfl rfl (fun Lx => ?_) ?_
      · skip
        refine At.load rfl (Ld.own ag75 (sz75.trans (congrArg some (hp).size.symm)) hb1) rfl ?_
        refine At.ops0 ?_
        exact fun a ha => ⟨ha, rfl⟩
      refine At.wpcS (i := 1) (d := 33) (.agg u1.cs) (by kernel_rfl) rfl rfl rfl (fun Lx => ?_) ?_
      · skip
        refine At.load rfl (Ld.own ag33 (sz33.trans (congrArg some (((ht).kid hu1)).size.symm)) hb3) rfl ?_
        refine At.ops0 ?_
        exact fun a ha => ⟨ha, rfl⟩
      refine At.wpcS (i := 2) (d := 34) (.agg t.cs) (by kernel_rfl) rfl rfl rfl (fun Lx => ?_) ?_
      · skip
        refine At.load rfl (Ld.own ag33 (sz33.trans (congrArg some (ht).size.symm)) hb2) rfl ?_
        refine At.ops0 ?_
        exact fun a ha => ⟨ha, rfl⟩
      refine At.wpcS (i := 3) (d := 35) (.int .i64 (k : Int)) (by kernel_rfl) rfl rfl rfl (fun Lx => ?_) ?_
      · skip
        refine At.move rfl rfl ?_
        refine At.ops0 ?_
        exact fun a ha => ⟨ha, rfl⟩
      refine At.wpcS (i := 4) (d := 36) (v) (by kernel_rfl) rfl rfl rfl (fun Lx => ?_) ?_
      · skip
        refine At.move rfl rfl ?_
        refine At.ops0 ?_
        exact fun a ha => ⟨ha, rfl⟩
      refine At.wpcE [5] (by kernel_rfl) (by kernel_rfl) (.cons [0, 1] rfl (by kernel_rfl) ?_ .nil)
      refine At.call en42 rfl rfl (inside_any t k v bound _ ((ht).keep hB) ((hv).keep hB) (by omega)) (fun e w7 hR => ?_)
      obtain ⟨vs1, rfl, hbl2, hst1⟩ := hR
      refine ⟨_, rfl, ?_⟩
      replace hb1 := Below.old hbl2 hb1
      replace hb2 := Below.old hbl2 hb2
      replace hb3 := Below.old hbl2 hb3
      replace hB := Below.andThen hB hbl2
      refine At.ops0 ?_
      refine At.wpcN (.cons rfl rfl rfl rfl (fun Lx => ?_) (.cons rfl rfl rfl rfl (fun Lx => ?_) .nil)) ?_
      · skip
        refine At.load rfl (Ld.own ag75 (sz75.trans (congrArg some (hp).size.symm)) hb1) rfl ?_
        refine At.ops0 ?_
        exact fun a ha => ⟨ha, rfl⟩
      · skip
        refine At.load rfl (Ld.own ag33 (sz33.trans (congrArg some (((ht).kid hu1)).size.symm)) hb3) rfl ?_
        refine At.ops0 ?_
        exact fun a ha => ⟨ha, rfl⟩
      refine At.wpcE [6] (by kernel_rfl) (by kernel_rfl) (.cons [] rfl (by kernel_rfl) ?_ .nil)
      refine At.call en28 rfl rfl (ih u1 hlt vs1 (insideB t.k t.nm t.pm k bound) _ ((hp).keep hB) ((((ht).kid hu1)).keep hB) ((hst1).keep (Below.refl _ _)) (by omega)) (fun e w8 hR => ?_)
      obtain ⟨rfl, hbl3⟩ := hR
      refine ⟨_, rfl, ?_⟩
      replace hb1 := Below.old hbl3 hb1
      replace hb2 := Below.old hbl3 hb2
      replace hb3 := Below.old hbl3 hb3
      replace hst1 := hst1.below hbl3
      replace hB := Below.andThen hB hbl3
      refine At.ops0 ?_
      refine At.wpcN .nil ?_
      refine At.wpcS (i := 7) (d := 31) (.tuple #[.int .i64 (atE (termS p (insideB t.k t.nm t.pm k bound) u1)), .int .i64 (erE (termS p (insideB t.k t.nm t.pm k bound) u1))]) (by kernel_rfl) rfl rfl rfl (fun Lx => ?_) ?_
      · skip
        refine At.move rfl rfl ?_
        refine At.ops0 ?_
        exact fun a ha => ⟨ha, rfl⟩
      refine At.wpcS (i := 8) (d := 39) (.int .i64 (atE (termS p (insideB t.k t.nm t.pm k bound) u1))) (by kernel_rfl) rfl rfl rfl (fun Lx => ?_) ?_
      · skip
        refine At.extract rfl rfl rfl ?_
        refine At.ops0 ?_
        exact fun a ha => ⟨ha, rfl⟩
      refine At.wpcS (i := 9) (d := 40) (.int .i64 (erE (termS p (insideB t.k t.nm t.pm k bound) u1))) (by kernel_rfl) rfl rfl rfl (fun Lx => ?_) ?_
      · skip
        refine At.extract rfl rfl rfl ?_
        refine At.ops0 ?_
        exact fun a ha => ⟨ha, rfl⟩
      refine At.wpcE [10] (by kernel_rfl) (by kernel_rfl) (.cons [9] rfl (by kernel_rfl) ?_ .nil)
      refine At.assign rfl rfl ?_
      refine At.ops0 ?_
      refine At.wpcN (.cons rfl rfl rfl rfl (fun Lx => ?_) .nil) ?_
      · skip
        refine At.extract rfl rfl rfl ?_
        refine At.ops0 ?_
        exact fun a ha => ⟨ha, rfl⟩
      refine At.wpcE [11] (by kernel_rfl) (by kernel_rfl) (.cons [] rfl (by kernel_rfl) ?_ .nil)
      refine At.assign rfl rfl ?_
      refine At.ops0 ?_
      refine At.wpcN .nil ?_
      refine At.wpcZ ?_
      refine At.thenN ?_
      refine At.seq ?_
      refine At.region ?_
      refine At.move rfl rfl ?_
      refine At.neI rfl rfl rfl ?_
      refine At.ops0 ?_
      refine At.thenN ?_
      refine At.cond (b := (!decide ((erE (termS p (insideB t.k t.nm t.pm k bound) u1)) = 0))) rfl (fun hc3 => ?_) (fun hc3 => ?_)
      · skip
        have hc3' := hc3; simp only [Bool.not_eq_true', Bool.not_eq_false', decide_eq_true_eq, decide_eq_false_iff_not] at hc3'
        refine At.seq ?_
        refine At.region ?_
        refine At.move rfl rfl ?_
        refine At.move rfl rfl ?_
        refine At.assign rfl rfl ?_
        refine At.assign rfl rfl ?_
        refine At.ops0 ?_
        refine At.thenN ?_
        refine At.retc ?_
        refine At.inR ?_
        refine At.thenR ?_
        refine At.thenR ?_
        refine At.inR ?_
        refine At.thenR ?_
        refine At.doneR (ResV.tmp rfl (ResV.tmp rfl ResV.nil)) ?_
        have hone : oneB p t bound = true := by simpa using hc1
        have hx := orO_some (s := kidsS p t.k t.nm t.pm bound (k + 1) (t.kids.drop (k + 1))) hc3'
        have hx2 := orO_some (s := armsS p bound t.arms) hc3'
        exact ⟨congrArg Ending.returned (by rw [termS_go hone, ← hn, kidsS_step hu1, hx, hx2]; rfl), hB⟩
      · skip
        have hc3' := hc3; simp only [Bool.not_eq_true', Bool.not_eq_false', decide_eq_true_eq, decide_eq_false_iff_not] at hc3'
        refine At.skip ?_
        refine At.inN ?_
        refine At.thenN ?_
        refine At.region ?_
        refine At.addI rfl rfl rfl (by have := wt_kids t; have := wt_arms t; omega) ?_
        refine At.move rfl rfl ?_
        refine At.ops0 ?_
        refine At.thenN ?_
        exact fun a ha => ⟨(k + 1), ha.sub (Sub.cons rfl (Sub.cons rfl (Sub.cons rfl (Sub.cons rfl (Sub.cons rfl (Sub.cons rfl Sub.nil)))))), ⟨hB, hb1, hb2, (by omega), (by rw [← hn, kidsS_step hu1, orO_none (of_decide_eq_true (by simpa using hc3))])⟩, by first | omega | (dsimp only; omega)⟩
    · skip
      have hc2' := of_decide_eq_false hc2
      refine At.exit ?_
      refine At.thenE ?_
      refine At.thenE ?_
      refine At.inE ?_
      refine At.thenN ?_
      refine At.seq ?_
      refine At.seq ?_
      refine At.region ?_
      refine At.fieldAddr rfl fo33_6 rfl ?_
      refine At.load rfl (Ld.ownCell ag25 hb2 (ht).c6) rfl ?_
      refine At.lenSl rfl ((ht).armsAt).okL el25 rfl ?_
      refine At.move rfl rfl ?_
      refine At.ops0 ?_
      refine At.thenN ?_
      refine At.block ?_
      have hkn : ∀ x, orO (kidsS p t.k t.nm t.pm bound 0 t.kids) x = x := fun x => by rw [← hn, List.drop_eq_nil_of_le (by omega)]; rfl
      refine At.loop (Nat) (fun j => [(2, v), (3, .pointer (some ⟨b1, 0, none⟩)), (47, t.av), (48, .int .i64 (t.arms.length : Int)), (49, .int .i64 (j : Int))]) (fun j w9 => Below w.heap.size w w9 ∧ w9.heap[b1]? = some (.cells p.cs 75) ∧ (j ≤ t.arms.length) ∧ (armsS p bound (t.arms.drop j) = armsS p bound t.arms)) (fun j => t.arms.length - j) (0 : Nat) (Sub.cons rfl (Sub.cons rfl (Sub.cons rfl (Sub.cons rfl (Sub.cons rfl Sub.nil))))) ⟨hB, hb1, (Nat.zero_le _), (rfl)⟩ (fun j w9 hI => ?_)
      clear hB hb1 hb2
      obtain ⟨hB, hb1, hjb, hn2⟩ := hI
      show At _ _ [(2, v), (3, .pointer (some ⟨b1, 0, none⟩)), (47, t.av), (48, .int .i64 (t.arms.length : Int)), (49, .int .i64 (j : Int))] _ _
      refine At.seq ?_
      refine At.region ?_
      refine At.lss rfl rfl rfl ?_
      refine At.ops0 ?_
      refine At.thenN ?_
      refine At.seq ?_
      refine At.cond (b := decide ((j : Int) < (t.arms.length : Int))) rfl (fun hc4 => ?_) (fun hc4 => ?_)
      · skip
        have hc4' := of_decide_eq_true hc4
        refine At.skip ?_
        refine At.thenN ?_
        refine At.seq ?_
        refine At.block ?_
        refine At.seq ?_
        refine At.region ?_
        obtain ⟨u2, hu2⟩ := some_of_lt (l := t.arms) (i := j) (by have := wt_kids t; have := wt_arms t; omega)
        refine At.indexAddr (i := j) rfl rfl ((ht).armsAt).okL (lt_of_some hu2) el25 sz71 rfl ?_
        refine At.load rfl (Ld.row ag71 (sz71.trans (congrArg some (((ht).arm hu2)).size.symm)) ((((ht).armsAt).row hu2).keep hB)) rfl ?_
        refine At.alloc ze71 rfl (fun b4 w10 F4 => ?_)
        have n_b1_b4 : b1 ≠ b4 := Nat.ne_of_lt (F4.lt hb1)
        have gb4 := F4.ge hB
        replace hb1 := F4.old hb1
        have hb4 : w10.heap[b4]? = some (.cells #[.string (⟨#[]⟩ : ByteArray), (.slice none 0 0), .int .i64 0, .int .i64 0, .string (⟨#[]⟩ : ByteArray), .string (⟨#[]⟩ : ByteArray), .int .i64 0, (.slice none 0 0), (.slice none 0 0), .int .i64 0, .string (⟨#[]⟩ : ByteArray), .int .i64 0, (.slice none 0 0), (.slice none 0 0), .int .i64 0, (.slice none 0 0), .int .i64 0, .int .i64 0, .string (⟨#[]⟩ : ByteArray), .int .i64 0, (.slice none 0 0), (.slice none 0 0), .int .i64 0] 71) := F4.new
        replace hB := F4.below' hB
        refine At.storeAll rfl rfl hb4 (sz71.trans (congrArg some (((ht).arm hu2)).size.symm)) (((ht).arm hu2)).size.symm (((ht).arm hu2)).one (fun w11 S2 => ?_)
        replace hb1 := S2.other hb1 n_b1_b4
        replace hb4 : w11.heap[b4]? = some (.cells u2.cs 71) := S2.new
        replace hB := S2.below' hB gb4
        refine At.ops0 ?_
        refine At.thenN ?_
        refine At.seq ?_
        have hw := wt_arm (List.mem_of_getElem? hu2)
        have hlt : wtT u2.body < wtT t := by omega
        refine At.drawG (n := 13) mixed (by kernel_rfl) rfl (PanicOk.then (PanicOk.block (PanicOk.then (PanicOk.then (PanicOk.block (PanicOk.then PanicOk.body)))))) ?_
        have hB := Below.drewB hB
        have hb1 : _ := (show w11.drew.heap[b1]? = _ from hb1)
        have hb4 : _ := (show w11.drew.heap[b4]? = _ from hb4)
        refine At.wpcS (i := 0) (d := 54) (.agg p.cs) (by kernel_rfl) rfl rfl rfl (fun Lx => ?_) ?_
        · skip
          refine At.load rfl (Ld.own ag75 (sz75.trans (congrArg some (hp).size.symm)) hb1) rfl ?_
          refine At.ops0 ?_
          exact fun a ha => ⟨ha, rfl⟩
        refine At.wpcS (i := 1) (d := 55) (.pointer (some ⟨b4, 0 + 2, none⟩)) (by kernel_rfl) rfl rfl rfl (fun Lx => ?_) ?_
        · skip
          refine At.fieldAddr rfl fo71_2 rfl ?_
          refine At.ops0 ?_
          exact fun a ha => ⟨ha, rfl⟩
        refine At.wpcS (i := 2) (d := 56) (.agg u2.body.cs) (by kernel_rfl) rfl rfl rfl (fun Lx => ?_) ?_
        · skip
          refine At.load rfl (Ld.ownPart ag33 (sz33.trans (congrArg some ((((ht).arm hu2)).body).size.symm)) hb4 (((ht).arm hu2)).bodyCs) rfl ?_
          refine At.ops0 ?_
          exact fun a ha => ⟨ha, rfl⟩
        refine At.wpcS (i := 3) (d := 57) (v) (by kernel_rfl) rfl rfl rfl (fun Lx => ?_) ?_
        · skip
          refine At.move rfl rfl ?_
          refine At.ops0 ?_
          exact fun a ha => ⟨ha, rfl⟩
        refine At.wpcS (i := 4) (d := 58) (.pointer (some ⟨b4, 0 + 1, none⟩)) (by kernel_rfl) rfl rfl rfl (fun Lx => ?_) ?_
        · skip
          refine At.fieldAddr rfl fo71_1 rfl ?_
          refine At.ops0 ?_
          exact fun a ha => ⟨ha, rfl⟩
        refine At.wpcS (i := 5) (d := 59) (u2.vv) (by kernel_rfl) rfl rfl rfl (fun Lx => ?_) ?_
        · skip
          refine At.load rfl (Ld.ownCell ag27 hb4 (((ht).arm hu2)).c1) rfl ?_
          refine At.ops0 ?_
          exact fun a ha => ⟨ha, rfl⟩
        refine At.wpcE [6] (by kernel_rfl) (by kernel_rfl) (.cons [0, 1, 2] rfl (by kernel_rfl) ?_ .nil)
        refine At.call en43 rfl rfl (with_any v u2.vv bound u2.vars _ ((hv).keep hB) (((((ht).arm hu2)).varsAt).keep hB) (by omega)) (fun e w12 hR => ?_)
        obtain ⟨vs2, rfl, hbl4, hst2⟩ := hR
        refine ⟨_, rfl, ?_⟩
        replace hb1 := Below.old hbl4 hb1
        replace hb4 := Below.old hbl4 hb4
        replace hB := Below.andThen hB hbl4
        refine At.ops0 ?_
        refine At.wpcN (.cons rfl rfl rfl rfl (fun Lx => ?_) (.cons rfl rfl rfl rfl (fun Lx => ?_) (.cons rfl rfl rfl rfl (fun Lx => ?_) .nil))) ?_
        · skip
          refine At.load rfl (Ld.own ag75 (sz75.trans (congrArg some (hp).size.symm)) hb1) rfl ?_
          refine At.ops0 ?_
          exact fun a ha => ⟨ha, rfl⟩
        · skip
          refine At.fieldAddr rfl fo71_2 rfl ?_
          refine At.ops0 ?_
          exact fun a ha => ⟨ha, rfl⟩
        · skip
          refine At.load rfl (Ld.ownPart ag33 (sz33.trans (congrArg some ((((ht).arm hu2)).body).size.symm)) hb4 (((ht).arm hu2)).bodyCs) rfl ?_
          refine At.ops0 ?_
          exact fun a ha => ⟨ha, rfl⟩
        refine At.wpcE [7] (by kernel_rfl) (by kernel_rfl) (.cons [] rfl (by kernel_rfl) ?_ .nil)
        refine At.call en28 rfl rfl (ih u2.body hlt vs2 (bound ++ u2.vars) _ ((hp).keep hB) (((((ht).arm hu2)).body).keep hB) ((hst2).keep (Below.refl _ _)) (by rw [List.length_append]; omega)) (fun e w13 hR => ?_)
        obtain ⟨rfl, hbl5⟩ := hR
        refine ⟨_, rfl, ?_⟩
        replace hb1 := Below.old hbl5 hb1
        replace hb4 := Below.old hbl5 hb4
        replace hst2 := hst2.below hbl5
        replace hB := Below.andThen hB hbl5
        refine At.ops0 ?_
        refine At.wpcN .nil ?_
        refine At.wpcS (i := 8) (d := 53) (.tuple #[.int .i64 (atE (termS p (bound ++ u2.vars) u2.body)), .int .i64 (erE (termS p (bound ++ u2.vars) u2.body))]) (by kernel_rfl) rfl rfl rfl (fun Lx => ?_) ?_
        · skip
          refine At.move rfl rfl ?_
          refine At.ops0 ?_
          exact fun a ha => ⟨ha, rfl⟩
        refine At.wpcS (i := 9) (d := 62) (.int .i64 (atE (termS p (bound ++ u2.vars) u2.body))) (by kernel_rfl) rfl rfl rfl (fun Lx => ?_) ?_
        · skip
          refine At.extract rfl rfl rfl ?_
          refine At.ops0 ?_
          exact fun a ha => ⟨ha, rfl⟩
        refine At.wpcS (i := 10) (d := 63) (.int .i64 (erE (termS p (bound ++ u2.vars) u2.body))) (by kernel_rfl) rfl rfl rfl (fun Lx => ?_) ?_
        · skip
          refine At.extract rfl rfl rfl ?_
          refine At.ops0 ?_
          exact fun a ha => ⟨ha, rfl⟩
        refine At.wpcE [11] (by kernel_rfl) (by kernel_rfl) (.cons [10] rfl (by kernel_rfl) ?_ .nil)
        refine At.assign rfl rfl ?_
        refine At.ops0 ?_
        refine At.wpcN (.cons rfl rfl rfl rfl (fun Lx => ?_) .nil) ?_
        · skip
          refine At.extract rfl rfl rfl ?_
          refine At.ops0 ?_
          exact fun a ha => ⟨ha, rfl⟩
        refine At.wpcE [12] (by kernel_rfl) (by kernel_rfl) (.cons [] rfl (by kernel_rfl) ?_ .nil)
        refine At.assign rfl rfl ?_
        refine At.ops0 ?_
        refine At.wpcN .nil ?_
        refine At.wpcZ ?_
        refine At.thenN ?_
        refine At.seq ?_
        refine At.region ?_
        refine At.move rfl rfl ?_
        refine At.neI rfl rfl rfl ?_
        refine At.ops0 ?_
        refine At.thenN ?_
        refine At.cond (b := (!decide ((erE (termS p (bound ++ u2.vars) u2.body)) = 0))) rfl (fun hc5 => ?_) (fun hc5 => ?_)
        · skip
          have hc5' := hc5; simp only [Bool.not_eq_true', Bool.not_eq_false', decide_eq_true_eq, decide_eq_false_iff_not] at hc5'
          refine At.seq ?_
          refine At.region ?_
          refine At.move rfl rfl ?_
          refine At.move rfl rfl ?_
          refine At.assign rfl rfl ?_
          refine At.assign rfl rfl ?_
          refine At.ops0 ?_
          refine At.thenN ?_
          refine At.retc ?_
          refine At.inR ?_
          refine At.thenR ?_
          refine At.thenR ?_
          refine At.inR ?_
          refine At.thenR ?_
          refine At.doneR (ResV.tmp rfl (ResV.tmp rfl ResV.nil)) ?_
          have hone : oneB p t bound = true := by simpa using hc1
          have hx := orO_some (s := armsS p bound (t.arms.drop (j + 1))) hc5'
          exact ⟨congrArg Ending.returned (by rw [termS_go hone, hkn, ← hn2, armsS_step hu2, hx]; rfl), hB⟩
        · skip
          have hc5' := hc5; simp only [Bool.not_eq_true', Bool.not_eq_false', decide_eq_true_eq, decide_eq_false_iff_not] at hc5'
          refine At.skip ?_
          refine At.inN ?_
          refine At.thenN ?_
          refine At.region ?_
          refine At.addI rfl rfl rfl (by have := wt_kids t; have := wt_arms t; omega) ?_
          refine At.move rfl rfl ?_
          refine At.ops0 ?_
          refine At.thenN ?_
          exact fun a ha => ⟨(j + 1), ha.sub (Sub.cons rfl (Sub.cons rfl (Sub.cons rfl (Sub.cons rfl (Sub.cons rfl Sub.nil))))), ⟨hB, hb1, (by omega), (by rw [← hn2, armsS_step hu2, orO_none (of_decide_eq_true (by simpa using hc5))])⟩, by first | omega | (dsimp only; omega)⟩
      · skip
        have hc4' := of_decide_eq_false hc4
        refine At.exit ?_
        refine At.thenE ?_
        refine At.thenE ?_
        refine At.inE ?_
        refine At.thenN ?_
        refine At.seq ?_
        refine At.region ?_
        refine At.assign rfl rfl ?_
        refine At.assign rfl rfl ?_
        refine At.ops0 ?_
        refine At.thenN ?_
        refine At.retc ?_
        refine At.doneR (ResV.tmp rfl (ResV.tmp rfl ResV.nil)) ?_
        have hone : oneB p t bound = true := by simpa using hc1
        exact ⟨congrArg Ending.returned (by rw [termS_go hone, hkn, ← hn2, List.drop_eq_nil_of_le (by omega)]; rfl), hB⟩
theorem term_any (p : Pr) (hz : PrSz p) : ∀ (t : Tm) (v : Value) (bound : List ByteArray) (w : World), PrOk w p → TmOk w t → StrsAt w v bound → bound.length + wtT t ≤ 4398046511104 →
    Calls Try.prog 28 ([.agg p.cs, .agg t.cs, v] : List Value).toArray w fun e w' => e = .returned (termE (termS p bound t)) ∧ Below w.heap.size w w' := by
  have key : ∀ (n : Nat) (t : Tm), wtT t = n → ∀ (v : Value) (bound : List ByteArray) (w : World), PrOk w p → TmOk w t → StrsAt w v bound → bound.length + wtT t ≤ 4398046511104 →
      Calls Try.prog 28 ([.agg p.cs, .agg t.cs, v] : List Value).toArray w fun e w' => e = .returned (termE (termS p bound t)) ∧ Below w.heap.size w w' := by
    intro n
    induction n using Nat.strongRecOn with
    | _ n ih => intro t hn v bound w h1 h2 h3 h4; exact term_step p hz t v bound w h1 h2 h3 h4 (fun u hu => ih (wtT u) (hn ▸ hu) u rfl)
  exact fun t => key _ t rfl
theorem check_any (p : Pr) (w : World) (hp : PrOk w p) (hz : PrSz p) (hl : wtT p.body ≤ 4398046511104) :
    Calls Try.prog 12 ([.agg p.cs] : List Value).toArray w fun e w' => e = .returned (checkV (checkP p)) ∧ Below w.heap.size w w' := by
  have hB := Below.refl w.heap.size w
  refine At.enter (N := 27) Try.func12 rfl rfl (by simp) [(0, .agg p.cs)] (by simp) ?_
  refine At.seq ?_
  refine At.region ?_
  refine At.box rfl rfl (fun b1 w1 F1 => ?_)
  have gb1 := F1.ge hB
  have hb1 : w1.heap[b1]? = some (.cells p.cs 35) := F1.new
  replace hB := F1.below' hB
  refine At.assign rfl rfl ?_
  refine At.assign rfl rfl ?_
  refine At.ops0 ?_
  refine At.thenN ?_
  refine At.seq ?_
  refine At.region ?_
  refine At.load rfl (Ld.own ag35 (sz35.trans (congrArg some (hp).size.symm)) hb1) rfl ?_
  refine At.build (C := p.cs) sd75 ze75 rfl (Bld.whole fo75_0 (hp).size rfl) rfl ?_
  refine At.alloc ze75 rfl (fun b2 w2 F2 => ?_)
  have n_b1_b2 : b1 ≠ b2 := Nat.ne_of_lt (F2.lt hb1)
  have gb2 := F2.ge hB
  replace hb1 := F2.old hb1
  have hb2 : w2.heap[b2]? = some (.cells #[(.slice none 0 0), (.slice none 0 0), .int .i64 0, .int .i64 0, .string (⟨#[]⟩ : ByteArray), .string (⟨#[]⟩ : ByteArray), .int .i64 0, (.slice none 0 0), (.slice none 0 0), .int .i64 0, .string (⟨#[]⟩ : ByteArray), .int .i64 0, (.slice none 0 0), (.slice none 0 0), .int .i64 0, (.slice none 0 0), .int .i64 0, .int .i64 0, .string (⟨#[]⟩ : ByteArray), .int .i64 0, (.slice none 0 0), (.slice none 0 0), .int .i64 0] 75) := F2.new
  replace hB := F2.below' hB
  refine At.storeAll rfl rfl hb2 (sz75.trans (congrArg some (hp).size.symm)) (hp).size.symm (hp).one (fun w3 S1 => ?_)
  replace hb1 := S1.other hb1 n_b1_b2
  replace hb2 : w3.heap[b2]? = some (.cells p.cs 75) := S1.new
  replace hB := S1.below' hB gb2
  refine At.ops0 ?_
  refine At.thenN ?_
  refine At.seq ?_
  refine At.block ?_
  refine At.seq ?_
  refine At.region ?_
  refine At.fieldAddr rfl fo35_0 rfl ?_
  refine At.load rfl (Ld.ownCell ag22 hb1 (hp).c0) rfl ?_
  refine At.lenSl rfl ((hp).effsAt).okL el22 rfl ?_
  refine At.gtr rfl rfl rfl ?_
  refine At.assign rfl rfl ?_
  refine At.ops0 ?_
  refine At.thenN ?_
  refine At.cond (b := decide (65534 < (p.effs.length : Int))) rfl (fun hc1 => ?_) (fun hc1 => ?_)
  · skip
    have hc1' := of_decide_eq_true hc1
    refine At.seq ?_
    refine At.region ?_
    refine At.assign rfl rfl ?_
    refine At.assign rfl rfl ?_
    refine At.ops0 ?_
    refine At.thenN ?_
    refine At.retc ?_
    refine At.inR ?_
    refine At.thenR ?_
    refine At.doneR (ResV.tmp rfl (ResV.tmp rfl ResV.nil)) ?_
    have hck : checkP p = (0, 6) := by simp only [checkP, hc1, Bool.true_or, Bool.or_true, Bool.false_or, Bool.or_false, Bool.not_true, Bool.not_false, if_true, if_false, Bool.false_eq_true]
    exact ⟨by rw [hck]; rfl, hB⟩
  · skip
    have hc1' := of_decide_eq_false hc1
    refine At.seq ?_
    refine At.region ?_
    refine At.load rfl (Ld.own ag75 (sz75.trans (congrArg some (hp).size.symm)) hb2) rfl ?_
    refine At.call en26 rfl rfl (effects_any p _ ((hp).keep hB) hz) (fun e w4 hR => ?_)
    obtain ⟨rfl, hbl1⟩ := hR
    refine ⟨_, rfl, ?_⟩
    replace hb1 := Below.old hbl1 hb1
    replace hb2 := Below.old hbl1 hb2
    replace hB := Below.andThen hB hbl1
    refine At.not rfl rfl ?_
    refine At.move rfl rfl ?_
    refine At.cases ((!(effsB p.dats [con_] [] p.effs))) (fun hg1 => ?_) (fun hg1 => ?_)
    · skip
      refine At.set (d := 16) (u := .bool true) rfl (congrArg Value.bool hg1) ?_
      refine At.no rfl rfl rfl rfl rfl rfl rfl ?_
      refine At.no rfl rfl rfl rfl rfl rfl rfl ?_
      refine At.no rfl rfl rfl rfl rfl rfl rfl ?_
      refine At.pickT rfl rfl rfl ?_
      refine At.assign rfl rfl ?_
      refine At.ops0 ?_
      refine At.thenN ?_
      refine At.condT rfl ?_
      refine At.seq ?_
      refine At.region ?_
      refine At.assign rfl rfl ?_
      refine At.assign rfl rfl ?_
      refine At.ops0 ?_
      refine At.thenN ?_
      refine At.retc ?_
      refine At.inR ?_
      refine At.thenR ?_
      refine At.doneR (ResV.tmp rfl (ResV.tmp rfl ResV.nil)) ?_
      have hck : checkP p = (0, 4) := by simp only [checkP, hc1, hg1, Bool.true_or, Bool.or_true, Bool.false_or, Bool.or_false, Bool.not_true, Bool.not_false, if_true, if_false, Bool.false_eq_true]
      exact ⟨by rw [hck]; rfl, hB⟩
    · skip
      refine At.set (d := 16) (u := .bool false) rfl (congrArg Value.bool hg1) ?_
      refine At.yes rfl rfl rfl rfl ?_
      refine At.load rfl (Ld.own ag75 (sz75.trans (congrArg some (hp).size.symm)) hb2) rfl ?_
      refine At.yes rfl rfl rfl rfl ?_
      refine At.call en27 rfl rfl (datas_any p _ ((hp).keep hB) hz) (fun e w5 hR => ?_)
      obtain ⟨rfl, hbl2⟩ := hR
      refine ⟨_, rfl, ?_⟩
      replace hb1 := Below.old hbl2 hb1
      replace hb2 := Below.old hbl2 hb2
      replace hB := Below.andThen hB hbl2
      refine At.yes rfl rfl rfl rfl ?_
      refine At.not rfl rfl ?_
      refine At.pickF rfl rfl rfl ?_
      refine At.assign rfl rfl ?_
      refine At.ops0 ?_
      refine At.thenN ?_
      refine At.cond (b := (!(datsB p.dats [con_] [] p.dats))) rfl (fun hc2 => ?_) (fun hc2 => ?_)
      · skip
        refine At.seq ?_
        refine At.region ?_
        refine At.assign rfl rfl ?_
        refine At.assign rfl rfl ?_
        refine At.ops0 ?_
        refine At.thenN ?_
        refine At.retc ?_
        refine At.inR ?_
        refine At.thenR ?_
        refine At.doneR (ResV.tmp rfl (ResV.tmp rfl ResV.nil)) ?_
        have hck : checkP p = (0, 4) := by simp only [checkP, hc1, hg1, hc2, Bool.true_or, Bool.or_true, Bool.false_or, Bool.or_false, Bool.not_true, Bool.not_false, if_true, if_false, Bool.false_eq_true]
        exact ⟨by rw [hck]; rfl, hB⟩
      · skip
        refine At.skip ?_
        refine At.inN ?_
        refine At.thenN ?_
        refine At.seq ?_
        refine At.region ?_
        refine At.load rfl (Ld.own ag75 (sz75.trans (congrArg some (hp).size.symm)) hb2) rfl ?_
        refine At.fieldAddr rfl fo35_2 rfl ?_
        refine At.load rfl (Ld.ownPart ag33 (sz33.trans (congrArg some ((hp).bodyOk).size.symm)) hb1 (hp).bodyCs) rfl ?_
        refine At.call en28 rfl rfl (term_any p hz p.body (.slice none 0 0) ([] : List ByteArray) _ ((hp).keep hB) (((hp).bodyOk).keep hB) (((StrsAt.nil _)).keep hB) (by simpa using hl)) (fun e w6 hR => ?_)
        obtain ⟨rfl, hbl3⟩ := hR
        refine ⟨_, rfl, ?_⟩
        replace hb1 := Below.old hbl3 hb1
        replace hb2 := Below.old hbl3 hb2
        replace hB := Below.andThen hB hbl3
        refine At.extract rfl rfl rfl ?_
        refine At.extract rfl rfl rfl ?_
        refine At.assign rfl rfl ?_
        refine At.assign rfl rfl ?_
        refine At.ops0 ?_
        refine At.thenN ?_
        refine At.retc ?_
        refine At.doneR (ResV.tmp rfl (ResV.tmp rfl ResV.nil)) ?_
        have hck : checkP p = ((atE (termS p ([] : List ByteArray) p.body)), (erE (termS p ([] : List ByteArray) p.body))) := by simp only [checkP, hc1, hg1, hc2, Bool.true_or, Bool.or_true, Bool.false_or, Bool.or_false, Bool.not_true, Bool.not_false, if_true, if_false, Bool.false_eq_true]
        exact ⟨by rw [hck]; rfl, hB⟩
end Go.Proofs.Ytkclfcdppnlkbaa
