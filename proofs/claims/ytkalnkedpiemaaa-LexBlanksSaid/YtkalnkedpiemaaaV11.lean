/-
  The walk of the statement LexBlanks. Written by a program of ours.
-/
import Derived.Test.YtkalnkedpiemaaaV6
import Derived.Test.YtkalnkedpiemaaaL14
set_option linter.unusedVariables false
set_option linter.unusedSimpArgs false
namespace Go.Proofs.Ytkalnkedpiemaaa
open Go.RowKit

theorem lexBlanks_any (v : Value) (l : List UInt8) (v2 : Value) (ns : List (List UInt8)) (m : Int) (w : World) (hv : BytesAt w v l) (hv2 : StrsAt w v2 (ns.map bs)) (hm : w.cell? ⟨0, 0, none⟩ = some (.int .i64 m)) :
    Calls Try.prog 4 ([v, v2] : List Value).toArray w fun e w' => e = .returned (.bool true) ∧ Below w.heap.size w w' := by
  have hB := Below.refl w.heap.size w
  refine At.enter (N := 107) Try.func4 rfl rfl (by simp) [(0, v), (1, v2)] (by simp) ?_
  refine At.seq ?_
  refine At.region ?_
  refine At.assign rfl rfl ?_
  refine At.ops0 ?_
  refine At.thenN ?_
  refine At.seq ?_
  refine At.region ?_
  refine At.call en10 rfl rfl (shown_any m _ (cell_keep hm hB)) (fun e w1 hR => ?_)
  obtain ⟨rfl, hbl1⟩ := hR
  refine ⟨_, rfl, ?_⟩
  replace hB := Below.andThen hB hbl1
  refine At.assign rfl rfl ?_
  refine At.ops0 ?_
  refine At.thenN ?_
  refine At.seq ?_
  refine At.region ?_
  refine At.move rfl rfl ?_
  refine At.move rfl rfl ?_
  refine At.lenSl rfl (BytesAt.ok hv) el22 rfl ?_
  refine At.minI rfl rfl rfl ?_
  refine At.set (d := 21) (u := .int .i64 (((min l.length 2000) : Nat) : Int)) rfl (congrArg (Value.int .i64) (min_lit _ _)) ?_
  have hle1 : (min l.length 2000) ≤ l.length := by first | omega | (simp only [List.length_append, List.length_cons, List.length_nil]; omega)
  refine At.sliceTo (h := (min l.length 2000)) rfl rfl (BytesAt.ok hv) el22 sz5 hle1 rfl ?_
  obtain ⟨S1, hS1, bS1⟩ : ∃ x : List UInt8, (l.take (min l.length 2000)) = x ∧ x.length ≤ 2000 := ⟨_, rfl, by simp only [List.length_take]; omega⟩
  refine At.assign rfl rfl ?_
  refine At.ops0 ?_
  refine At.thenN ?_
  refine At.seq ?_
  refine At.region ?_
  refine At.move rfl rfl ?_
  refine At.call en11 rfl rfl (lex_to (takeV v (min l.length 2000)) S1 m _ (lexT S1) (lexA S1) (lexE S1) ⟨rfl, rfl, rfl⟩ (BytesAt.keep (BytesAt.eqL (BytesAt.take hv hle1) hS1) hB) (cell_keep hm hB)) (fun e w2 hR => ?_)
  obtain ⟨vt1, rfl, hbl2, hO1, ghO1⟩ := hR
  refine ⟨_, rfl, ?_⟩
  replace ghO1 : ∀ g, Value.ownBlock vt1 = some g → w.heap.size ≤ g := fun g h => Nat.le_trans hB.size (ghO1 g h)
  replace hB := Below.andThen hB hbl2
  refine At.move rfl rfl ?_
  refine At.extract rfl rfl rfl ?_
  refine At.extract rfl rfl rfl ?_
  refine At.extract rfl rfl rfl ?_
  refine At.assign rfl rfl ?_
  refine At.assign rfl rfl ?_
  refine At.assign rfl rfl ?_
  refine At.ops0 ?_
  refine At.thenN ?_
  refine At.seq ?_
  refine At.seq ?_
  refine At.region ?_
  refine At.move rfl rfl ?_
  refine At.neI rfl rfl rfl ?_
  refine At.ops0 ?_
  refine At.thenN ?_
  refine At.cond (b := (!decide ((lexE S1) = 0))) rfl (fun hc1 => ?_) (fun hc1 => ?_)
  · skip
    have hc1' := hc1; simp only [Bool.not_eq_true', Bool.not_eq_false', decide_eq_true_eq, decide_eq_false_iff_not] at hc1'
    refine At.seq ?_
    refine At.region ?_
    refine At.move rfl rfl ?_
    refine At.assign rfl rfl ?_
    refine At.ops0 ?_
    refine At.thenN ?_
    refine At.retc ?_
    refine At.thenR ?_
    refine At.doneR (ResV.tmp rfl ResV.nil) ?_
    exact ⟨rfl, hB⟩
  · skip
    have hc1' := hc1; simp only [Bool.not_eq_true', Bool.not_eq_false', decide_eq_true_eq, decide_eq_false_iff_not] at hc1'
    refine At.skip ?_
    refine At.thenN ?_
    refine At.seq ?_
    have hW := words_of (l := S1) (by simpa using hc1); have hlen := hW.len; have hsum := hW.sum
    have hfl : (([32, 9] : List UInt8) ++ blankS ns 0 (lexT S1)).length ≤ 60000 := by
      have := blank_len ns (lexT S1) 0
      simp only [List.length_append, List.length_cons, List.length_nil]; omega
    refine At.region ?_
    refine At.assign rfl rfl ?_
    refine At.ops0 ?_
    refine At.thenN ?_
    refine At.seq ?_
    refine At.seq ?_
    refine At.region ?_
    refine At.assign rfl rfl ?_
    refine At.ops0 ?_
    refine At.thenN ?_
    refine At.block ?_
    refine At.loop (Nat × List UInt8) (fun (k, sk) => [(1, v2), (5, .bool true), (6, vt1), (9, .string (bs sk)), (10, .int .i64 (k : Int))]) (fun (k, sk) w3 => Below w.heap.size w w3 ∧ OwnR 31 4 Tk.cs w3 vt1 (lexT S1) ∧ (k ≤ (lexT S1).length) ∧ ((([32, 9] : List UInt8) ++ blankS ns 0 (lexT S1)) = sk ++ blankS ns k ((lexT S1).drop k))) (fun (k, sk) => (lexT S1).length - k) (0, ([32, 9] : List UInt8)) (Sub.cons rfl (Sub.cons rfl (Sub.cons rfl (Sub.cons rfl (Sub.cons rfl Sub.nil))))) ⟨hB, hO1, (Nat.zero_le _), (rfl)⟩ (fun gh w3 hI => ?_)
    obtain ⟨k, sk⟩ := gh
    clear hB hO1
    obtain ⟨hB, hO1, hkb, hfull⟩ := hI
    show At _ _ [(1, v2), (5, .bool true), (6, vt1), (9, .string (bs sk)), (10, .int .i64 (k : Int))] _ _
    have hsk : sk.length ≤ 60000 := by
      have h1 : sk.length ≤ (sk ++ blankS ns k ((lexT S1).drop k)).length := by simp
      rw [← hfull] at h1; omega
    refine At.seq ?_
    refine At.seq ?_
    refine At.region ?_
    refine At.move rfl rfl ?_
    refine At.move rfl rfl ?_
    refine At.lenSl rfl (Own.slOk hO1) el24 rfl ?_
    refine At.lss rfl rfl rfl ?_
    refine At.ops0 ?_
    refine At.thenN ?_
    refine At.cond (b := decide ((k : Int) < ((lexT S1).length : Int))) rfl (fun hc2 => ?_) (fun hc2 => ?_)
    · skip
      have hc2' := of_decide_eq_true hc2
      refine At.skip ?_
      refine At.thenN ?_
      refine At.seq ?_
      refine At.block ?_
      refine At.seq ?_
      obtain ⟨x, hx⟩ := some_of_lt (l := lexT S1) (i := k) (by omega)
      have hxt := hW.tok x (List.mem_of_getElem? hx)
      refine At.region ?_
      refine At.move rfl rfl ?_
      refine At.move rfl rfl ?_
      refine At.move rfl rfl ?_
      refine At.indexAddr (i := k) rfl rfl (Own.slOk hO1) (lt_of_some hx) el24 sz31 rfl ?_
      refine At.fieldAddr rfl fo31_1 rfl ?_
      refine At.load rfl (Ld.cell ag9 (cell_keep ((((OwnR.rows hO1 (fun u hu => (((fun u _ => tk_ok u)) u hu).size))).row hx).get ((((fun u _ => tk_ok u)) x (List.mem_of_getElem? hx))).c1) (Below.refl _ _))) rfl ?_
      refine At.catB (a := sk) (b := x.t) rfl rfl rfl (by first | omega | (simp only [List.length_append, List.length_cons, List.length_nil, List.length_take, List.length_drop]; omega)) ?_
      refine At.assign rfl rfl ?_
      refine At.ops0 ?_
      refine At.thenN ?_
      refine At.seq ?_
      refine At.seq ?_
      refine At.region ?_
      refine At.move rfl rfl ?_
      refine At.move rfl rfl ?_
      refine At.indexAddr (i := k) rfl rfl (Own.slOk hO1) (lt_of_some hx) el24 sz31 rfl ?_
      refine At.fieldAddr rfl fo31_0 rfl ?_
      refine At.load rfl (Ld.cell ag3 (cell_keep ((((OwnR.rows hO1 (fun u hu => (((fun u _ => tk_ok u)) u hu).size))).row hx).get ((((fun u _ => tk_ok u)) x (List.mem_of_getElem? hx))).c0) (Below.refl _ _))) rfl ?_
      refine At.eqI rfl rfl rfl ?_
      refine At.ops0 ?_
      refine At.thenN ?_
      refine At.cond (b := decide (x.k = 6)) rfl (fun hc3 => ?_) (fun hc3 => ?_)
      · skip
        have hc3' := of_decide_eq_true hc3
        refine At.region ?_
        refine At.move rfl rfl ?_
        refine At.catB (a := (sk ++ x.t)) (b := ([33] : List UInt8)) rfl rfl rfl (by first | omega | (simp only [List.length_append, List.length_cons, List.length_nil, List.length_take, List.length_drop]; omega)) ?_
        refine At.assign rfl rfl ?_
        refine At.ops0 ?_
        refine At.thenN ?_
        refine At.seq ?_
        refine At.seq ?_
        have hnl : (ns.map bs).length = ns.length := List.length_map _
        refine At.region ?_
        refine At.move rfl rfl ?_
        refine At.move rfl rfl ?_
        refine At.lenSl rfl hv2.ok el33 rfl ?_
        refine At.lss rfl rfl rfl ?_
        refine At.ops0 ?_
        refine At.thenN ?_
        refine At.cond (b := decide ((k : Int) < ((ns.map bs).length : Int))) rfl (fun hc4 => ?_) (fun hc4 => ?_)
        · skip
          have hc4' := of_decide_eq_true hc4
          refine At.seq ?_
          obtain ⟨n, hn⟩ := some_of_lt (l := ns) (i := k) (by omega)
          refine At.drawG (n := 12) mixed (by kernel_rfl) rfl (PanicOk.then (PanicOk.then (PanicOk.block (PanicOk.then (PanicOk.then (PanicOk.block (PanicOk.then PanicOk.body))))))) ?_
          have hB := Below.drewB hB
          have hO1 := hO1.drew
          refine At.wpcS (i := 0) (d := 57) (v2) (by kernel_rfl) rfl rfl rfl (fun Lx => ?_) ?_
          · skip
            refine At.move rfl rfl ?_
            refine At.ops0 ?_
            exact fun a ha => ⟨ha, rfl⟩
          refine At.wpcS (i := 1) (d := 58) (.int .i64 (k : Int)) (by kernel_rfl) rfl rfl rfl (fun Lx => ?_) ?_
          · skip
            refine At.move rfl rfl ?_
            refine At.ops0 ?_
            exact fun a ha => ⟨ha, rfl⟩
          refine At.wpcS (i := 2) (d := 59) (.pointer (some ⟨vBlock v2, vOff v2 + k * 1, none⟩)) (by kernel_rfl) rfl rfl rfl (fun Lx => ?_) ?_
          · skip
            refine At.indexAddr (i := k) rfl rfl hv2.ok (lt_of_some (map_at hn)) el33 sz9 rfl ?_
            refine At.ops0 ?_
            exact fun a ha => ⟨ha, rfl⟩
          refine At.wpcS (i := 3) (d := 60) (.string (bs n)) (by kernel_rfl) rfl rfl rfl (fun Lx => ?_) ?_
          · skip
            refine At.load rfl (Ld.cell ag9 (cell_keep ((hv2).get (map_at hn)) hB)) rfl ?_
            refine At.ops0 ?_
            exact fun a ha => ⟨ha, rfl⟩
          refine At.wpcS (i := 4) (d := 61) (v2) (by kernel_rfl) rfl rfl rfl (fun Lx => ?_) ?_
          · skip
            refine At.move rfl rfl ?_
            refine At.ops0 ?_
            exact fun a ha => ⟨ha, rfl⟩
          refine At.wpcS (i := 5) (d := 62) (.int .i64 (k : Int)) (by kernel_rfl) rfl rfl rfl (fun Lx => ?_) ?_
          · skip
            refine At.move rfl rfl ?_
            refine At.ops0 ?_
            exact fun a ha => ⟨ha, rfl⟩
          refine At.wpcS (i := 6) (d := 63) (.pointer (some ⟨vBlock v2, vOff v2 + k * 1, none⟩)) (by kernel_rfl) rfl rfl rfl (fun Lx => ?_) ?_
          · skip
            refine At.indexAddr (i := k) rfl rfl hv2.ok (lt_of_some (map_at hn)) el33 sz9 rfl ?_
            refine At.ops0 ?_
            exact fun a ha => ⟨ha, rfl⟩
          refine At.wpcS (i := 7) (d := 64) (.string (bs n)) (by kernel_rfl) rfl rfl rfl (fun Lx => ?_) ?_
          · skip
            refine At.load rfl (Ld.cell ag9 (cell_keep ((hv2).get (map_at hn)) hB)) rfl ?_
            refine At.ops0 ?_
            exact fun a ha => ⟨ha, rfl⟩
          refine At.wpcS (i := 8) (d := 65) (.int .i64 (n.length : Int)) (by kernel_rfl) rfl rfl rfl (fun Lx => ?_) ?_
          · skip
            refine At.lenB (l := n) rfl st9 rfl ?_
            refine At.ops0 ?_
            exact fun a ha => ⟨ha, rfl⟩
          refine At.wpcS (i := 9) (d := 66) (.int .i64 (((min n.length 20) : Nat) : Int)) (by kernel_rfl) rfl rfl rfl (fun Lx => ?_) ?_
          · skip
            refine At.minI rfl rfl rfl ?_
            refine At.set (d := 66) (u := .int .i64 (((min n.length 20) : Nat) : Int)) rfl (congrArg (Value.int .i64) (min_lit _ _)) ?_
            refine At.ops0 ?_
            exact fun a ha => ⟨Is.dup ha, rfl⟩
          have hle2 : (min n.length 20) ≤ n.length := by first | omega | (simp only [List.length_append, List.length_cons, List.length_nil]; omega)
          refine At.wpcS (i := 10) (d := 67) (.string (bs (n.take (min n.length 20)))) (by kernel_rfl) rfl rfl rfl (fun Lx => ?_) ?_
          · skip
            refine At.takeB (l := n) (h := (min n.length 20)) rfl rfl st9 hle2 rfl ?_
            refine At.ops0 ?_
            exact fun a ha => ⟨ha, rfl⟩
          refine At.wpcE [11] (by kernel_rfl) (by kernel_rfl) (.cons [] rfl (by kernel_rfl) ?_ .nil)
          refine At.assign rfl rfl ?_
          refine At.ops0 ?_
          refine At.wpcN .nil ?_
          refine At.wpcZ ?_
          refine At.thenN ?_
          refine At.seq ?_
          have hnn : (n.take (min n.length 20)).length ≤ 20 := by rw [List.length_take]; omega
          refine At.region ?_
          refine At.move rfl rfl ?_
          refine At.catB (a := ((sk ++ x.t) ++ ([33] : List UInt8))) (b := ([35] : List UInt8)) rfl rfl rfl (by first | omega | (simp only [List.length_append, List.length_cons, List.length_nil, List.length_take, List.length_drop]; omega)) ?_
          refine At.assign rfl rfl ?_
          refine At.ops0 ?_
          refine At.thenN ?_
          refine At.seq ?_
          refine At.region ?_
          refine At.assign rfl rfl ?_
          refine At.ops0 ?_
          refine At.thenN ?_
          refine At.block ?_
          refine At.loop (Nat × List UInt8) (fun (j, s0) => [(1, v2), (5, .bool true), (6, vt1), (9, .string (bs s0)), (10, .int .i64 (k : Int)), (11, .string (bs (n.take (min n.length 20)))), (12, .int .i64 (j : Int))]) (fun (j, s0) w4 => Below w.heap.size w w4 ∧ OwnR 31 4 Tk.cs w4 vt1 (lexT S1) ∧ (j ≤ (n.take (min n.length 20)).length) ∧ (s0 = (((sk ++ x.t) ++ ([33] : List UInt8)) ++ ([35] : List UInt8)) ++ flt j (n.take (min n.length 20)))) (fun (j, s0) => (n.take (min n.length 20)).length - j) (0, (((sk ++ x.t) ++ ([33] : List UInt8)) ++ ([35] : List UInt8))) (Sub.cons rfl (Sub.cons rfl (Sub.cons rfl (Sub.cons rfl (Sub.cons rfl (Sub.cons rfl (Sub.cons rfl Sub.nil))))))) ⟨hB, hO1, (Nat.zero_le _), (by rw [flt_zero, List.append_nil])⟩ (fun gh w4 hI => ?_)
          obtain ⟨j, s0⟩ := gh
          clear hB hO1
          obtain ⟨hB, hO1, hjb, hs0⟩ := hI
          show At _ _ [(1, v2), (5, .bool true), (6, vt1), (9, .string (bs s0)), (10, .int .i64 (k : Int)), (11, .string (bs (n.take (min n.length 20)))), (12, .int .i64 (j : Int))] _ _
          have hsl : s0.length ≤ 70000 := by
            have h1 := flt_len j (n.take (min n.length 20))
            rw [hs0]; simp only [List.length_append, List.length_cons, List.length_nil]; omega
          refine At.seq ?_
          refine At.seq ?_
          refine At.region ?_
          refine At.move rfl rfl ?_
          refine At.move rfl rfl ?_
          refine At.lenB (l := (n.take (min n.length 20))) rfl st9 rfl ?_
          refine At.lss rfl rfl rfl ?_
          refine At.ops0 ?_
          refine At.thenN ?_
          refine At.cond (b := decide ((j : Int) < ((n.take (min n.length 20)).length : Int))) rfl (fun hc5 => ?_) (fun hc5 => ?_)
          · skip
            have hc5' := of_decide_eq_true hc5
            refine At.skip ?_
            refine At.thenN ?_
            refine At.seq ?_
            refine At.block ?_
            refine At.seq ?_
            refine At.region ?_
            refine At.move rfl rfl ?_
            refine At.move rfl rfl ?_
            obtain ⟨u1, hu1⟩ := some_of_lt (l := (n.take (min n.length 20))) (i := j) (by first | omega | (simp only [List.length_append, List.length_cons, List.length_nil]; omega))
            refine At.indexB (l := (n.take (min n.length 20))) (i := j) rfl rfl hu1 st9 rfl ?_
            refine At.neI rfl rfl rfl ?_
            refine At.ops0 ?_
            refine At.thenN ?_
            refine At.cond (b := (!decide ((u1.toNat : Int) = 10))) rfl (fun hc6 => ?_) (fun hc6 => ?_)
            · skip
              have hc6' := hc6; simp only [Bool.not_eq_true', Bool.not_eq_false', decide_eq_true_eq, decide_eq_false_iff_not] at hc6'
              refine At.region ?_
              refine At.move rfl rfl ?_
              refine At.move rfl rfl ?_
              refine At.move rfl rfl ?_
              refine At.move rfl rfl ?_
              refine At.addI rfl rfl rfl (by first | omega | (simp only [List.length_append, List.length_cons, List.length_nil]; omega)) ?_
              refine At.partB (l := (n.take (min n.length 20))) (lo := j) (hi := (j + 1)) rfl rfl rfl st9 (by omega) (by omega) rfl ?_
              refine At.catB (a := s0) (b := (((n.take (min n.length 20)).drop j).take ((j + 1) - j))) rfl rfl rfl (by first | omega | (simp only [List.length_append, List.length_cons, List.length_nil, List.length_take, List.length_drop]; omega)) ?_
              refine At.assign rfl rfl ?_
              refine At.ops0 ?_
              refine At.inN ?_
              refine At.thenN ?_
              refine At.region ?_
              refine At.move rfl rfl ?_
              refine At.addI rfl rfl rfl (by first | omega | (simp only [List.length_append, List.length_cons, List.length_nil]; omega)) ?_
              refine At.assign rfl rfl ?_
              refine At.ops0 ?_
              refine At.thenN ?_
              exact fun act_ hact_ => ⟨((j + 1), (s0 ++ (((n.take (min n.length 20)).drop j).take ((j + 1) - j)))), hact_.sub (Sub.cons rfl (Sub.cons rfl (Sub.cons rfl (Sub.cons rfl (Sub.cons rfl (Sub.cons rfl (Sub.cons rfl Sub.nil))))))), ⟨hB, hO1, (by omega), (by rw [flt_yes hu1 hc6', hs0, List.append_assoc])⟩, by first | omega | (dsimp only; omega)⟩
            · skip
              have hc6' := hc6; simp only [Bool.not_eq_true', Bool.not_eq_false', decide_eq_true_eq, decide_eq_false_iff_not] at hc6'
              refine At.skip ?_
              refine At.inN ?_
              refine At.thenN ?_
              refine At.region ?_
              refine At.move rfl rfl ?_
              refine At.addI rfl rfl rfl (by first | omega | (simp only [List.length_append, List.length_cons, List.length_nil]; omega)) ?_
              refine At.assign rfl rfl ?_
              refine At.ops0 ?_
              refine At.thenN ?_
              exact fun act_ hact_ => ⟨((j + 1), s0), hact_.sub (Sub.cons rfl (Sub.cons rfl (Sub.cons rfl (Sub.cons rfl (Sub.cons rfl (Sub.cons rfl (Sub.cons rfl Sub.nil))))))), ⟨hB, hO1, (by omega), (by rw [flt_no hu1 hc6', hs0])⟩, by first | omega | (dsimp only; omega)⟩
          · skip
            have hc5' := of_decide_eq_false hc5
            refine At.exit ?_
            refine At.thenE ?_
            refine At.thenE ?_
            refine At.inE ?_
            refine At.thenN ?_
            refine At.region ?_
            refine At.move rfl rfl ?_
            refine At.catB (a := s0) (b := ([13, 10] : List UInt8)) rfl rfl rfl (by first | omega | (simp only [List.length_append, List.length_cons, List.length_nil, List.length_take, List.length_drop]; omega)) ?_
            refine At.assign rfl rfl ?_
            refine At.ops0 ?_
            refine At.inN ?_
            refine At.thenN ?_
            refine At.region ?_
            refine At.move rfl rfl ?_
            refine At.addI rfl rfl rfl (by first | omega | (simp only [List.length_append, List.length_cons, List.length_nil]; omega)) ?_
            refine At.assign rfl rfl ?_
            refine At.ops0 ?_
            refine At.thenN ?_
            exact fun act_ hact_ => ⟨((k + 1), (s0 ++ ([13, 10] : List UInt8))), hact_.sub (Sub.cons rfl (Sub.cons rfl (Sub.cons rfl (Sub.cons rfl (Sub.cons rfl Sub.nil))))), ⟨hB, hO1, (by omega), (blank_step hx hfull (by rw [(show textW x = x.t ++ [33] from if_pos hc3'), gap_yes hn, hs0, show j = (n.take (min n.length 20)).length by omega]; simp))⟩, by first | omega | (dsimp only; omega)⟩
        · skip
          have hc4' := of_decide_eq_false hc4
          refine At.skip ?_
          refine At.thenN ?_
          refine At.region ?_
          refine At.move rfl rfl ?_
          refine At.catB (a := ((sk ++ x.t) ++ ([33] : List UInt8))) (b := ([13, 10] : List UInt8)) rfl rfl rfl (by first | omega | (simp only [List.length_append, List.length_cons, List.length_nil, List.length_take, List.length_drop]; omega)) ?_
          refine At.assign rfl rfl ?_
          refine At.ops0 ?_
          refine At.inN ?_
          refine At.thenN ?_
          refine At.region ?_
          refine At.move rfl rfl ?_
          refine At.addI rfl rfl rfl (by first | omega | (simp only [List.length_append, List.length_cons, List.length_nil]; omega)) ?_
          refine At.assign rfl rfl ?_
          refine At.ops0 ?_
          refine At.thenN ?_
          exact fun act_ hact_ => ⟨((k + 1), (((sk ++ x.t) ++ ([33] : List UInt8)) ++ ([13, 10] : List UInt8))), hact_.sub (Sub.cons rfl (Sub.cons rfl (Sub.cons rfl (Sub.cons rfl (Sub.cons rfl Sub.nil))))), ⟨hB, hO1, (by omega), (blank_step hx hfull (by rw [(show textW x = x.t ++ [33] from if_pos hc3'), gap_no (by omega)]; simp))⟩, by first | omega | (dsimp only; omega)⟩
      · skip
        have hc3' := of_decide_eq_false hc3
        refine At.skip ?_
        refine At.thenN ?_
        refine At.seq ?_
        refine At.seq ?_
        have hnl : (ns.map bs).length = ns.length := List.length_map _
        refine At.region ?_
        refine At.move rfl rfl ?_
        refine At.move rfl rfl ?_
        refine At.lenSl rfl hv2.ok el33 rfl ?_
        refine At.lss rfl rfl rfl ?_
        refine At.ops0 ?_
        refine At.thenN ?_
        refine At.cond (b := decide ((k : Int) < ((ns.map bs).length : Int))) rfl (fun hc7 => ?_) (fun hc7 => ?_)
        · skip
          have hc7' := of_decide_eq_true hc7
          refine At.seq ?_
          obtain ⟨n, hn⟩ := some_of_lt (l := ns) (i := k) (by omega)
          refine At.drawG (n := 12) mixed (by kernel_rfl) rfl (PanicOk.then (PanicOk.then (PanicOk.block (PanicOk.then (PanicOk.then (PanicOk.block (PanicOk.then PanicOk.body))))))) ?_
          have hB := Below.drewB hB
          have hO1 := hO1.drew
          refine At.wpcS (i := 0) (d := 57) (v2) (by kernel_rfl) rfl rfl rfl (fun Lx => ?_) ?_
          · skip
            refine At.move rfl rfl ?_
            refine At.ops0 ?_
            exact fun a ha => ⟨ha, rfl⟩
          refine At.wpcS (i := 1) (d := 58) (.int .i64 (k : Int)) (by kernel_rfl) rfl rfl rfl (fun Lx => ?_) ?_
          · skip
            refine At.move rfl rfl ?_
            refine At.ops0 ?_
            exact fun a ha => ⟨ha, rfl⟩
          refine At.wpcS (i := 2) (d := 59) (.pointer (some ⟨vBlock v2, vOff v2 + k * 1, none⟩)) (by kernel_rfl) rfl rfl rfl (fun Lx => ?_) ?_
          · skip
            refine At.indexAddr (i := k) rfl rfl hv2.ok (lt_of_some (map_at hn)) el33 sz9 rfl ?_
            refine At.ops0 ?_
            exact fun a ha => ⟨ha, rfl⟩
          refine At.wpcS (i := 3) (d := 60) (.string (bs n)) (by kernel_rfl) rfl rfl rfl (fun Lx => ?_) ?_
          · skip
            refine At.load rfl (Ld.cell ag9 (cell_keep ((hv2).get (map_at hn)) hB)) rfl ?_
            refine At.ops0 ?_
            exact fun a ha => ⟨ha, rfl⟩
          refine At.wpcS (i := 4) (d := 61) (v2) (by kernel_rfl) rfl rfl rfl (fun Lx => ?_) ?_
          · skip
            refine At.move rfl rfl ?_
            refine At.ops0 ?_
            exact fun a ha => ⟨ha, rfl⟩
          refine At.wpcS (i := 5) (d := 62) (.int .i64 (k : Int)) (by kernel_rfl) rfl rfl rfl (fun Lx => ?_) ?_
          · skip
            refine At.move rfl rfl ?_
            refine At.ops0 ?_
            exact fun a ha => ⟨ha, rfl⟩
          refine At.wpcS (i := 6) (d := 63) (.pointer (some ⟨vBlock v2, vOff v2 + k * 1, none⟩)) (by kernel_rfl) rfl rfl rfl (fun Lx => ?_) ?_
          · skip
            refine At.indexAddr (i := k) rfl rfl hv2.ok (lt_of_some (map_at hn)) el33 sz9 rfl ?_
            refine At.ops0 ?_
            exact fun a ha => ⟨ha, rfl⟩
          refine At.wpcS (i := 7) (d := 64) (.string (bs n)) (by kernel_rfl) rfl rfl rfl (fun Lx => ?_) ?_
          · skip
            refine At.load rfl (Ld.cell ag9 (cell_keep ((hv2).get (map_at hn)) hB)) rfl ?_
            refine At.ops0 ?_
            exact fun a ha => ⟨ha, rfl⟩
          refine At.wpcS (i := 8) (d := 65) (.int .i64 (n.length : Int)) (by kernel_rfl) rfl rfl rfl (fun Lx => ?_) ?_
          · skip
            refine At.lenB (l := n) rfl st9 rfl ?_
            refine At.ops0 ?_
            exact fun a ha => ⟨ha, rfl⟩
          refine At.wpcS (i := 9) (d := 66) (.int .i64 (((min n.length 20) : Nat) : Int)) (by kernel_rfl) rfl rfl rfl (fun Lx => ?_) ?_
          · skip
            refine At.minI rfl rfl rfl ?_
            refine At.set (d := 66) (u := .int .i64 (((min n.length 20) : Nat) : Int)) rfl (congrArg (Value.int .i64) (min_lit _ _)) ?_
            refine At.ops0 ?_
            exact fun a ha => ⟨Is.dup ha, rfl⟩
          have hle3 : (min n.length 20) ≤ n.length := by first | omega | (simp only [List.length_append, List.length_cons, List.length_nil]; omega)
          refine At.wpcS (i := 10) (d := 67) (.string (bs (n.take (min n.length 20)))) (by kernel_rfl) rfl rfl rfl (fun Lx => ?_) ?_
          · skip
            refine At.takeB (l := n) (h := (min n.length 20)) rfl rfl st9 hle3 rfl ?_
            refine At.ops0 ?_
            exact fun a ha => ⟨ha, rfl⟩
          refine At.wpcE [11] (by kernel_rfl) (by kernel_rfl) (.cons [] rfl (by kernel_rfl) ?_ .nil)
          refine At.assign rfl rfl ?_
          refine At.ops0 ?_
          refine At.wpcN .nil ?_
          refine At.wpcZ ?_
          refine At.thenN ?_
          refine At.seq ?_
          have hnn : (n.take (min n.length 20)).length ≤ 20 := by rw [List.length_take]; omega
          refine At.region ?_
          refine At.move rfl rfl ?_
          refine At.catB (a := (sk ++ x.t)) (b := ([35] : List UInt8)) rfl rfl rfl (by first | omega | (simp only [List.length_append, List.length_cons, List.length_nil, List.length_take, List.length_drop]; omega)) ?_
          refine At.assign rfl rfl ?_
          refine At.ops0 ?_
          refine At.thenN ?_
          refine At.seq ?_
          refine At.region ?_
          refine At.assign rfl rfl ?_
          refine At.ops0 ?_
          refine At.thenN ?_
          refine At.block ?_
          refine At.loop (Nat × List UInt8) (fun (j, s0) => [(1, v2), (5, .bool true), (6, vt1), (9, .string (bs s0)), (10, .int .i64 (k : Int)), (11, .string (bs (n.take (min n.length 20)))), (12, .int .i64 (j : Int))]) (fun (j, s0) w5 => Below w.heap.size w w5 ∧ OwnR 31 4 Tk.cs w5 vt1 (lexT S1) ∧ (j ≤ (n.take (min n.length 20)).length) ∧ (s0 = ((sk ++ x.t) ++ ([35] : List UInt8)) ++ flt j (n.take (min n.length 20)))) (fun (j, s0) => (n.take (min n.length 20)).length - j) (0, ((sk ++ x.t) ++ ([35] : List UInt8))) (Sub.cons rfl (Sub.cons rfl (Sub.cons rfl (Sub.cons rfl (Sub.cons rfl (Sub.cons rfl (Sub.cons rfl Sub.nil))))))) ⟨hB, hO1, (Nat.zero_le _), (by rw [flt_zero, List.append_nil])⟩ (fun gh w5 hI => ?_)
          obtain ⟨j, s0⟩ := gh
          clear hB hO1
          obtain ⟨hB, hO1, hjb, hs0⟩ := hI
          show At _ _ [(1, v2), (5, .bool true), (6, vt1), (9, .string (bs s0)), (10, .int .i64 (k : Int)), (11, .string (bs (n.take (min n.length 20)))), (12, .int .i64 (j : Int))] _ _
          have hsl : s0.length ≤ 70000 := by
            have h1 := flt_len j (n.take (min n.length 20))
            rw [hs0]; simp only [List.length_append, List.length_cons, List.length_nil]; omega
          refine At.seq ?_
          refine At.seq ?_
          refine At.region ?_
          refine At.move rfl rfl ?_
          refine At.move rfl rfl ?_
          refine At.lenB (l := (n.take (min n.length 20))) rfl st9 rfl ?_
          refine At.lss rfl rfl rfl ?_
          refine At.ops0 ?_
          refine At.thenN ?_
          refine At.cond (b := decide ((j : Int) < ((n.take (min n.length 20)).length : Int))) rfl (fun hc8 => ?_) (fun hc8 => ?_)
          · skip
            have hc8' := of_decide_eq_true hc8
            refine At.skip ?_
            refine At.thenN ?_
            refine At.seq ?_
            refine At.block ?_
            refine At.seq ?_
            refine At.region ?_
            refine At.move rfl rfl ?_
            refine At.move rfl rfl ?_
            obtain ⟨u2, hu2⟩ := some_of_lt (l := (n.take (min n.length 20))) (i := j) (by first | omega | (simp only [List.length_append, List.length_cons, List.length_nil]; omega))
            refine At.indexB (l := (n.take (min n.length 20))) (i := j) rfl rfl hu2 st9 rfl ?_
            refine At.neI rfl rfl rfl ?_
            refine At.ops0 ?_
            refine At.thenN ?_
            refine At.cond (b := (!decide ((u2.toNat : Int) = 10))) rfl (fun hc9 => ?_) (fun hc9 => ?_)
            · skip
              have hc9' := hc9; simp only [Bool.not_eq_true', Bool.not_eq_false', decide_eq_true_eq, decide_eq_false_iff_not] at hc9'
              refine At.region ?_
              refine At.move rfl rfl ?_
              refine At.move rfl rfl ?_
              refine At.move rfl rfl ?_
              refine At.move rfl rfl ?_
              refine At.addI rfl rfl rfl (by first | omega | (simp only [List.length_append, List.length_cons, List.length_nil]; omega)) ?_
              refine At.partB (l := (n.take (min n.length 20))) (lo := j) (hi := (j + 1)) rfl rfl rfl st9 (by omega) (by omega) rfl ?_
              refine At.catB (a := s0) (b := (((n.take (min n.length 20)).drop j).take ((j + 1) - j))) rfl rfl rfl (by first | omega | (simp only [List.length_append, List.length_cons, List.length_nil, List.length_take, List.length_drop]; omega)) ?_
              refine At.assign rfl rfl ?_
              refine At.ops0 ?_
              refine At.inN ?_
              refine At.thenN ?_
              refine At.region ?_
              refine At.move rfl rfl ?_
              refine At.addI rfl rfl rfl (by first | omega | (simp only [List.length_append, List.length_cons, List.length_nil]; omega)) ?_
              refine At.assign rfl rfl ?_
              refine At.ops0 ?_
              refine At.thenN ?_
              exact fun act_ hact_ => ⟨((j + 1), (s0 ++ (((n.take (min n.length 20)).drop j).take ((j + 1) - j)))), hact_.sub (Sub.cons rfl (Sub.cons rfl (Sub.cons rfl (Sub.cons rfl (Sub.cons rfl (Sub.cons rfl (Sub.cons rfl Sub.nil))))))), ⟨hB, hO1, (by omega), (by rw [flt_yes hu2 hc9', hs0, List.append_assoc])⟩, by first | omega | (dsimp only; omega)⟩
            · skip
              have hc9' := hc9; simp only [Bool.not_eq_true', Bool.not_eq_false', decide_eq_true_eq, decide_eq_false_iff_not] at hc9'
              refine At.skip ?_
              refine At.inN ?_
              refine At.thenN ?_
              refine At.region ?_
              refine At.move rfl rfl ?_
              refine At.addI rfl rfl rfl (by first | omega | (simp only [List.length_append, List.length_cons, List.length_nil]; omega)) ?_
              refine At.assign rfl rfl ?_
              refine At.ops0 ?_
              refine At.thenN ?_
              exact fun act_ hact_ => ⟨((j + 1), s0), hact_.sub (Sub.cons rfl (Sub.cons rfl (Sub.cons rfl (Sub.cons rfl (Sub.cons rfl (Sub.cons rfl (Sub.cons rfl Sub.nil))))))), ⟨hB, hO1, (by omega), (by rw [flt_no hu2 hc9', hs0])⟩, by first | omega | (dsimp only; omega)⟩
          · skip
            have hc8' := of_decide_eq_false hc8
            refine At.exit ?_
            refine At.thenE ?_
            refine At.thenE ?_
            refine At.inE ?_
            refine At.thenN ?_
            refine At.region ?_
            refine At.move rfl rfl ?_
            refine At.catB (a := s0) (b := ([13, 10] : List UInt8)) rfl rfl rfl (by first | omega | (simp only [List.length_append, List.length_cons, List.length_nil, List.length_take, List.length_drop]; omega)) ?_
            refine At.assign rfl rfl ?_
            refine At.ops0 ?_
            refine At.inN ?_
            refine At.thenN ?_
            refine At.region ?_
            refine At.move rfl rfl ?_
            refine At.addI rfl rfl rfl (by first | omega | (simp only [List.length_append, List.length_cons, List.length_nil]; omega)) ?_
            refine At.assign rfl rfl ?_
            refine At.ops0 ?_
            refine At.thenN ?_
            exact fun act_ hact_ => ⟨((k + 1), (s0 ++ ([13, 10] : List UInt8))), hact_.sub (Sub.cons rfl (Sub.cons rfl (Sub.cons rfl (Sub.cons rfl (Sub.cons rfl Sub.nil))))), ⟨hB, hO1, (by omega), (blank_step hx hfull (by rw [(show textW x = x.t from if_neg hc3'), gap_yes hn, hs0, show j = (n.take (min n.length 20)).length by omega]; simp))⟩, by first | omega | (dsimp only; omega)⟩
        · skip
          have hc7' := of_decide_eq_false hc7
          refine At.skip ?_
          refine At.thenN ?_
          refine At.region ?_
          refine At.move rfl rfl ?_
          refine At.catB (a := (sk ++ x.t)) (b := ([13, 10] : List UInt8)) rfl rfl rfl (by first | omega | (simp only [List.length_append, List.length_cons, List.length_nil, List.length_take, List.length_drop]; omega)) ?_
          refine At.assign rfl rfl ?_
          refine At.ops0 ?_
          refine At.inN ?_
          refine At.thenN ?_
          refine At.region ?_
          refine At.move rfl rfl ?_
          refine At.addI rfl rfl rfl (by first | omega | (simp only [List.length_append, List.length_cons, List.length_nil]; omega)) ?_
          refine At.assign rfl rfl ?_
          refine At.ops0 ?_
          refine At.thenN ?_
          exact fun act_ hact_ => ⟨((k + 1), ((sk ++ x.t) ++ ([13, 10] : List UInt8))), hact_.sub (Sub.cons rfl (Sub.cons rfl (Sub.cons rfl (Sub.cons rfl (Sub.cons rfl Sub.nil))))), ⟨hB, hO1, (by omega), (blank_step hx hfull (by rw [(show textW x = x.t from if_neg hc3'), gap_no (by omega)]; simp))⟩, by first | omega | (dsimp only; omega)⟩
    · skip
      have hc2' := of_decide_eq_false hc2
      refine At.exit ?_
      refine At.thenE ?_
      refine At.thenE ?_
      refine At.inE ?_
      refine At.thenN ?_
      refine At.seq ?_
      have hsk2 : (([32, 9] : List UInt8) ++ blankS ns 0 (lexT S1)) = sk := by rw [hfull, List.drop_eq_nil_of_le (by omega)]; simp [blankS]
      obtain ⟨ts2, hl2, hst⟩ := blank_lex (ns := ns) hW.wd
      rw [hsk2] at hl2
      refine At.region ?_
      refine At.move rfl rfl ?_
      refine At.toBytes (l := sk) rfl st9 el22 ik5 (by omega) rfl (fun b1 cap1 w6 hgbb1 hbl3 hby1 => ?_)
      replace hO1 := hO1.below hbl3
      replace hB := Below.andThen hB hbl3
      refine At.call en11 rfl rfl (lex_to (.slice (some ⟨b1, 0, none⟩) sk.length cap1) sk m _ ts2 0 0 (lex_ok (by omega) hl2) (BytesAt.keep hby1 (Below.refl _ _)) (cell_keep hm hB)) (fun e w7 hR => ?_)
      obtain ⟨vt2, rfl, hbl4, hO2, ghO2⟩ := hR
      refine ⟨_, rfl, ?_⟩
      replace ghO2 : ∀ g, Value.ownBlock vt2 = some g → w.heap.size ≤ g := fun g h => Nat.le_trans hB.size (ghO2 g h)
      replace hO1 := hO1.below hbl4
      replace hby1 := hby1.below hbl4
      replace hB := Below.andThen hB hbl4
      refine At.move rfl rfl ?_
      refine At.extract rfl rfl rfl ?_
      refine At.extract rfl rfl rfl ?_
      refine At.extract rfl rfl rfl ?_
      refine At.assign rfl rfl ?_
      refine At.assign rfl rfl ?_
      refine At.assign rfl rfl ?_
      refine At.ops0 ?_
      refine At.thenN ?_
      refine At.seq ?_
      refine At.region ?_
      refine At.move rfl rfl ?_
      refine At.move rfl rfl ?_
      refine At.call en13 rfl rfl (same_any vt1 vt2 (lexT S1) ts2 false _ (OwnR.rows hO1 (fun u hu => (((fun u _ => tk_ok u)) u hu).size)) (OwnR.rows hO2 (fun u hu => (((fun u _ => tk_ok u)) u hu).size)) (by omega)) (fun e w8 hR => ?_)
      obtain ⟨rfl, hbl5⟩ := hR
      refine ⟨_, rfl, ?_⟩
      replace hO1 := hO1.below hbl5
      replace hby1 := hby1.below hbl5
      replace hO2 := hO2.below hbl5
      replace hB := Below.andThen hB hbl5
      refine At.assign rfl rfl ?_
      refine At.ops0 ?_
      refine At.thenN ?_
      refine At.seq ?_
      refine At.region ?_
      refine At.move rfl rfl ?_
      refine At.move rfl rfl ?_
      refine At.yes rfl rfl rfl rfl ?_
      refine At.move rfl rfl ?_
      refine At.yes rfl rfl rfl rfl ?_
      refine At.eqI rfl rfl rfl ?_
      refine At.pickT rfl rfl rfl ?_
      refine At.move rfl rfl ?_
      have hbb1 : (decide (0 = 0)) = true := by decide
      refine At.set (d := 104) (u := .bool true) rfl (congrArg Value.bool hbb1) ?_
      refine At.yes rfl rfl rfl rfl ?_
      refine At.move rfl rfl ?_
      refine At.pickT rfl rfl rfl ?_
      refine At.assign rfl rfl ?_
      refine At.ops0 ?_
      refine At.thenN ?_
      refine At.retc ?_
      refine At.doneR (ResV.tmp rfl ResV.nil) ?_
      exact ⟨congrArg Ending.returned (congrArg Value.bool (show ((sameB false (lexT S1) ts2)) = true from sameB_strip hst.symm)), hB⟩
end Go.Proofs.Ytkalnkedpiemaaa
