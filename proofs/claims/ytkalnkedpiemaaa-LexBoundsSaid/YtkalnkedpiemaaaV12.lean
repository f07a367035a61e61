/-
  The walk of the statement LexBounds. Written by a program of ours.
-/
import Derived.Test.YtkalnkedpiemaaaV6
import Derived.Test.YtkalnkedpiemaaaL15
set_option linter.unusedVariables false
set_option linter.unusedSimpArgs false
namespace Go.Proofs.Ytkalnkedpiemaaa
open Go.RowKit
theorem bo4 : boolB Try.prog 4 = true := by kernel_rfl
theorem lexBounds_any (iv io n0 : Int) (great : Bool) (m : Int) (w : World) (hm : w.cell? ⟨0, 0, none⟩ = some (.int .i64 m)) :
    Calls Try.prog 6 ([.int .i64 iv, .int .i64 io, .int .i64 n0, .bool great] : List Value).toArray w fun e w' => e = .returned (.bool true) ∧ Below w.heap.size w w' := by
  have hB := Below.refl w.heap.size w
  refine At.enter (N := 153) Try.func6 rfl rfl (by simp) [(0, .int .i64 iv), (1, .int .i64 io), (2, .int .i64 n0), (3, .bool great)] (by simp) ?_
  refine At.seq ?_
  refine At.region ?_
  refine At.assign rfl rfl ?_
  refine At.ops0 ?_
  refine At.thenN ?_
  refine At.seq ?_
  refine At.region ?_
  refine At.call en10 rfl rfl (shown_any m _ (cell_keep hm hB)) (fun e w1 hR => ?_)
  obtain ⟨rfl, hbl1⟩ := hR
  refine ⟨_, rfl, ?_⟩
  replace hB := Below.andThen hB hbl1
  refine At.assign rfl rfl ?_
  refine At.ops0 ?_
  refine At.thenN ?_
  refine At.seq ?_
  refine At.region ?_
  refine At.move rfl rfl ?_
  refine At.andI rfl rfl rfl ?_
  refine At.assign rfl rfl ?_
  refine At.ops0 ?_
  refine At.thenN ?_
  refine At.seq ?_
  obtain ⟨V, hV, hVm⟩ := and_max iv
  refine At.set (d := 0) (u := .int .i64 (V : Int)) rfl (congrArg (Value.int .i64) hV) ?_
  refine At.region ?_
  refine At.assign rfl rfl ?_
  refine At.ops0 ?_
  refine At.thenN ?_
  refine At.seq ?_
  refine At.seq ?_
  refine At.region ?_
  refine At.move rfl rfl ?_
  refine At.assign rfl rfl ?_
  refine At.ops0 ?_
  refine At.thenN ?_
  refine At.block ?_
  refine At.loop (Nat × List UInt8 × Nat) (fun (x, s, q) => [(0, .int .i64 (V : Int)), (1, .int .i64 io), (2, .int .i64 n0), (3, .bool great), (9, .bool true), (10, .string (bs s)), (11, .int .i64 (x : Int))]) (fun (x, s, q) w2 => Below w.heap.size w w2 ∧ (decV s x = V) ∧ (∀ d ∈ s, digB d = true) ∧ (x < 10 ^ q) ∧ (s.length + q ≤ 19) ∧ (x ≤ 9223372036854775807)) (fun (x, s, q) => x) (V, ([] : List UInt8), 19) (Sub.cons rfl (Sub.cons rfl (Sub.cons rfl (Sub.cons rfl (Sub.cons rfl (Sub.cons rfl (Sub.cons rfl Sub.nil))))))) ⟨hB, (rfl), (fun d hd => by cases hd), (by omega), (by decide), (hVm)⟩ (fun gh w2 hI => ?_)
  obtain ⟨x, s, q⟩ := gh
  clear hB
  obtain ⟨hB, hsv, hsd, hxq, hsl, hxm⟩ := hI
  show At _ _ [(0, .int .i64 (V : Int)), (1, .int .i64 io), (2, .int .i64 n0), (3, .bool great), (9, .bool true), (10, .string (bs s)), (11, .int .i64 (x : Int))] _ _
  refine At.seq ?_
  refine At.seq ?_
  refine At.region ?_
  refine At.move rfl rfl ?_
  refine At.gtr rfl rfl rfl ?_
  refine At.ops0 ?_
  refine At.thenN ?_
  refine At.cond (b := decide (0 < (x : Int))) rfl (fun hc1 => ?_) (fun hc1 => ?_)
  · skip
    have hc1' := of_decide_eq_true hc1
    refine At.skip ?_
    refine At.thenN ?_
    refine At.seq ?_
    refine At.block ?_
    have htm : (x : Int).tmod 10 = ((x % 10 : Nat) : Int) := rfl
    have hq0 := (pow_quo hxq (by omega)).2
    refine At.region ?_
    refine At.move rfl rfl ?_
    refine At.remI rfl rfl (by first | omega | (simp only [List.length_append, List.length_cons, List.length_nil]; omega)) rfl ?_
    refine At.addI rfl rfl rfl (by first | omega | (simp only [List.length_append, List.length_cons, List.length_nil]; omega)) ?_
    refine At.convI rfl ik3 ik5 rfl ?_
    refine At.buildSlice (xs := [.tmp 34]) rfl rfl el22 sz5 ze5 (by intro v hv; simp only [List.mem_cons, List.not_mem_nil, or_false] at hv; rcases hv with rfl <;> first | rfl | simp [Value.cells, Value.cells]) rfl (by decide) rfl (fun b1 w3 F1 => ?_)
    have gb1 := F1.ge hB
    have hb1 : w3.heap[b1]? = some (.cells #[.int .u8 (IntKind.u8.wrap (48 + ((x : Int).tmod 10)))] 5) := F1.new
    replace hB := F1.below' hB
    refine At.convB (xs := [IntKind.u8.wrap (48 + ((x : Int).tmod 10))]) rfl hb1 rfl el22 ik5 st9 rfl ?_
    refine At.set (d := 36) (u := .string (bs [dg x])) rfl (congrArg Value.string (dig_str x)) ?_
    refine At.move rfl rfl ?_
    refine At.catB (a := [dg x]) (b := s) rfl rfl rfl (by first | omega | (simp only [List.length_append, List.length_cons, List.length_nil]; omega)) ?_
    refine At.assign rfl rfl ?_
    refine At.ops0 ?_
    refine At.inN ?_
    refine At.thenN ?_
    refine At.region ?_
    refine At.move rfl rfl ?_
    refine At.quoI rfl rfl (by first | omega | (simp only [List.length_append, List.length_cons, List.length_nil]; omega)) rfl ?_
    refine At.set (d := 30) (u := .int .i64 ((((x / 10) : Nat)) : Int)) rfl (congrArg (Value.int .i64) (quo10x hxm)) ?_
    refine At.assign rfl rfl ?_
    refine At.ops0 ?_
    refine At.thenN ?_
    exact fun act_ hact_ => ⟨((x / 10), ([dg x] ++ s), (q - 1)), hact_.sub (Sub.cons rfl (Sub.cons rfl (Sub.cons rfl (Sub.cons rfl (Sub.cons rfl (Sub.cons rfl (Sub.cons rfl Sub.nil))))))), ⟨hB, ((decV_dg x s).trans hsv), (digs_all (dg_dig x) hsd), ((pow_quo hxq (by omega)).1), (by have := (pow_quo hxq (by omega)).2; simp only [List.length_append, List.length_cons, List.length_nil]; omega), (by omega)⟩, by first | omega | (dsimp only; omega)⟩
  · skip
    have hc1' := of_decide_eq_false hc1
    refine At.exit ?_
    refine At.thenE ?_
    refine At.thenE ?_
    refine At.inE ?_
    refine At.thenN ?_
    refine At.seq ?_
    refine At.seq ?_
    refine At.region ?_
    refine At.assign rfl rfl ?_
    refine At.ops0 ?_
    refine At.thenN ?_
    refine At.block ?_
    refine At.loop (Nat × List UInt8) (fun (i, z) => [(0, .int .i64 (V : Int)), (1, .int .i64 io), (2, .int .i64 n0), (3, .bool great), (9, .bool true), (10, .string (bs z)), (12, .int .i64 (i : Int))]) (fun (i, z) w4 => Below w.heap.size w w4 ∧ (decV z 0 = V) ∧ (∀ d ∈ z, digB d = true) ∧ (z.length ≤ 19 + i) ∧ (i ≤ 15)) (fun (i, z) => 15 - i) (0, s) (Sub.cons rfl (Sub.cons rfl (Sub.cons rfl (Sub.cons rfl (Sub.cons rfl (Sub.cons rfl (Sub.cons rfl Sub.nil))))))) ⟨hB, ((by rw [show x = 0 by omega] at hsv; exact hsv)), (hsd), (by omega), (by omega)⟩ (fun gh w4 hI => ?_)
    obtain ⟨i, z⟩ := gh
    clear hB
    obtain ⟨hB, hzv, hzd, hzl, hib⟩ := hI
    show At _ _ [(0, .int .i64 (V : Int)), (1, .int .i64 io), (2, .int .i64 n0), (3, .bool great), (9, .bool true), (10, .string (bs z)), (12, .int .i64 (i : Int))] _ _
    refine At.seq ?_
    refine At.seq ?_
    have hnb : bits .and .i64 io 15 ≤ 15 := (and_range io (n := 15) (by decide)).2
    refine At.region ?_
    refine At.move rfl rfl ?_
    refine At.move rfl rfl ?_
    refine At.andI rfl rfl rfl ?_
    refine At.lss rfl rfl rfl ?_
    refine At.ops0 ?_
    refine At.thenN ?_
    refine At.cond (b := decide ((i : Int) < (bits .and .i64 io 15))) rfl (fun hc2 => ?_) (fun hc2 => ?_)
    · skip
      have hc2' := of_decide_eq_true hc2
      refine At.skip ?_
      refine At.thenN ?_
      refine At.seq ?_
      refine At.block ?_
      refine At.region ?_
      refine At.move rfl rfl ?_
      refine At.catB (a := ([48] : List UInt8)) (b := z) rfl rfl rfl (by first | omega | (simp only [List.length_append, List.length_cons, List.length_nil]; omega)) ?_
      refine At.assign rfl rfl ?_
      refine At.ops0 ?_
      refine At.inN ?_
      refine At.thenN ?_
      refine At.region ?_
      refine At.move rfl rfl ?_
      refine At.addI rfl rfl rfl (by first | omega | (simp only [List.length_append, List.length_cons, List.length_nil]; omega)) ?_
      refine At.assign rfl rfl ?_
      refine At.ops0 ?_
      refine At.thenN ?_
      exact fun act_ hact_ => ⟨((i + 1), (([48] : List UInt8) ++ z)), hact_.sub (Sub.cons rfl (Sub.cons rfl (Sub.cons rfl (Sub.cons rfl (Sub.cons rfl (Sub.cons rfl (Sub.cons rfl Sub.nil))))))), ⟨hB, ((decV_0 z).trans hzv), (digs_all (by decide) hzd), (by simp only [List.length_append, List.length_cons, List.length_nil]; omega), (by omega)⟩, by first | omega | (dsimp only; omega)⟩
    · skip
      have hc2' := of_decide_eq_false hc2
      refine At.exit ?_
      refine At.thenE ?_
      refine At.thenE ?_
      refine At.inE ?_
      refine At.thenN ?_
      refine At.seq ?_
      refine At.seq ?_
      refine At.region ?_
      refine At.move rfl rfl ?_
      refine At.eqB' (a := z) (b := ([] : List UInt8)) rfl rfl rfl ?_
      refine At.ops0 ?_
      refine At.thenN ?_
      refine At.cond (b := decide (z = ([] : List UInt8))) rfl (fun hc3 => ?_) (fun hc3 => ?_)
      · skip
        have hc3' := of_decide_eq_true hc3
        refine At.region ?_
        refine At.assign rfl rfl ?_
        refine At.ops0 ?_
        refine At.thenN ?_
        refine At.seq ?_
        have hV0 : V = 0 := by rw [← hzv, show z = [] from by assumption]; rfl
        obtain ⟨T, hT, hTk, hTn, hTt⟩ := num_lex (s := ([48] : List UInt8)) (V := V) (by decide) (by rw [hV0]; decide) hVm (by decide)
        refine At.region ?_
        refine At.move rfl rfl ?_
        refine At.toBytes (l := ([48] : List UInt8)) rfl st9 el22 ik5 (by first | omega | (simp only [List.length_append, List.length_cons, List.length_nil]; omega)) rfl (fun b2 cap1 w5 hgbb1 hbl2 hby1 => ?_)
        replace hB := Below.andThen hB hbl2
        refine At.call en11 rfl rfl (lex_to (.slice (some ⟨b2, 0, none⟩) ([48] : List UInt8).length cap1) ([48] : List UInt8) m _ ([T]) 0 0 (lex_ok (by first | omega | decide) hT) (BytesAt.keep hby1 (Below.refl _ _)) (cell_keep hm hB)) (fun e w6 hR => ?_)
        obtain ⟨vt1, rfl, hbl3, hO1, ghO1⟩ := hR
        refine ⟨_, rfl, ?_⟩
        replace ghO1 : ∀ g, Value.ownBlock vt1 = some g → w.heap.size ≤ g := fun g h => Nat.le_trans hB.size (ghO1 g h)
        replace hby1 := hby1.below hbl3
        replace hB := Below.andThen hB hbl3
        refine At.move rfl rfl ?_
        refine At.extract rfl rfl rfl ?_
        refine At.extract rfl rfl rfl ?_
        refine At.extract rfl rfl rfl ?_
        refine At.assign rfl rfl ?_
        refine At.assign rfl rfl ?_
        refine At.assign rfl rfl ?_
        refine At.ops0 ?_
        refine At.thenN ?_
        refine At.seq ?_
        refine At.seq ?_
        refine At.region ?_
        refine At.move rfl rfl ?_
        refine At.lenSl rfl (Own.slOk hO1) el24 rfl ?_
        refine At.neI rfl rfl rfl ?_
        refine At.move rfl rfl ?_
        have hbb1 : ((!decide (([T].length : Int) = 1))) = false := by simp
        refine At.set (d := 59) (u := .bool false) rfl (congrArg Value.bool hbb1) ?_
        refine At.yes rfl rfl rfl rfl ?_
        refine At.move rfl rfl ?_
        refine At.yes rfl rfl rfl rfl ?_
        refine At.neI rfl rfl rfl ?_
        refine At.pickF rfl rfl rfl ?_
        refine At.move rfl rfl ?_
        have hbb2 : ((!decide (0 = 0))) = false := by decide
        refine At.set (d := 63) (u := .bool false) rfl (congrArg Value.bool hbb2) ?_
        refine At.yes rfl rfl rfl rfl ?_
        refine At.move rfl rfl ?_
        refine At.yes rfl rfl rfl rfl ?_
        refine At.indexAddr (i := 0) rfl rfl (Own.slOk hO1) (lt_of_some (show [T][0]? = some T from rfl)) el24 sz31 rfl ?_
        refine At.yes rfl rfl rfl rfl ?_
        refine At.fieldAddr rfl fo31_2 rfl ?_
        refine At.yes rfl rfl rfl rfl ?_
        refine At.load rfl (Ld.cell ag3 (cell_keep ((((OwnR.rows hO1 (fun u hu => (((fun u _ => tk_ok u)) u hu).size))).row (show [T][0]? = some T from rfl)).get ((((fun u _ => tk_ok u)) T (List.mem_of_getElem? (show [T][0]? = some T from rfl)))).c2) (Below.refl _ _))) rfl ?_
        refine At.yes rfl rfl rfl rfl ?_
        refine At.move rfl rfl ?_
        refine At.yes rfl rfl rfl rfl ?_
        refine At.neI rfl rfl rfl ?_
        refine At.pickF rfl rfl rfl ?_
        refine At.move rfl rfl ?_
        have hbb3 : ((!decide (T.n = (V : Int)))) = false := by rw [hTn]; simp
        refine At.set (d := 71) (u := .bool false) rfl (congrArg Value.bool hbb3) ?_
        refine At.yes rfl rfl rfl rfl ?_
        refine At.move rfl rfl ?_
        refine At.yes rfl rfl rfl rfl ?_
        refine At.indexAddr (i := 0) rfl rfl (Own.slOk hO1) (lt_of_some (show [T][0]? = some T from rfl)) el24 sz31 rfl ?_
        refine At.yes rfl rfl rfl rfl ?_
        refine At.fieldAddr rfl fo31_0 rfl ?_
        refine At.yes rfl rfl rfl rfl ?_
        refine At.load rfl (Ld.cell ag3 (cell_keep ((((OwnR.rows hO1 (fun u hu => (((fun u _ => tk_ok u)) u hu).size))).row (show [T][0]? = some T from rfl)).get ((((fun u _ => tk_ok u)) T (List.mem_of_getElem? (show [T][0]? = some T from rfl)))).c0) (Below.refl _ _))) rfl ?_
        refine At.yes rfl rfl rfl rfl ?_
        refine At.neI rfl rfl rfl ?_
        refine At.pickF rfl rfl rfl ?_
        refine At.move rfl rfl ?_
        have hbb4 : ((!decide (T.k = 1))) = false := by rw [hTk]; decide
        refine At.set (d := 78) (u := .bool false) rfl (congrArg Value.bool hbb4) ?_
        refine At.yes rfl rfl rfl rfl ?_
        refine At.move rfl rfl ?_
        refine At.yes rfl rfl rfl rfl ?_
        refine At.indexAddr (i := 0) rfl rfl (Own.slOk hO1) (lt_of_some (show [T][0]? = some T from rfl)) el24 sz31 rfl ?_
        refine At.yes rfl rfl rfl rfl ?_
        refine At.fieldAddr rfl fo31_1 rfl ?_
        refine At.yes rfl rfl rfl rfl ?_
        refine At.load rfl (Ld.cell ag9 (cell_keep ((((OwnR.rows hO1 (fun u hu => (((fun u _ => tk_ok u)) u hu).size))).row (show [T][0]? = some T from rfl)).get ((((fun u _ => tk_ok u)) T (List.mem_of_getElem? (show [T][0]? = some T from rfl)))).c1) (Below.refl _ _))) rfl ?_
        refine At.yes rfl rfl rfl rfl ?_
        refine At.move rfl rfl ?_
        refine At.yes rfl rfl rfl rfl ?_
        refine At.neB' (a := T.t) (b := ([48] : List UInt8)) rfl rfl rfl ?_
        refine At.pickF rfl rfl rfl ?_
        refine At.ops0 ?_
        refine At.thenN ?_
        have hb : ((!decide (T.t = ([48] : List UInt8)))) = false := by rw [hTt]; simp
        refine At.set (d := 85) (u := .bool false) rfl (congrArg Value.bool hb) ?_
        refine At.condF rfl ?_
        refine At.skip ?_
        refine At.thenN ?_
        refine At.seq ?_
        refine At.region ?_
        refine At.buildSlice (xs := [.const (.int .u8 57), .const (.int .u8 50), .const (.int .u8 50), .const (.int .u8 51), .const (.int .u8 51), .const (.int .u8 55), .const (.int .u8 50), .const (.int .u8 48), .const (.int .u8 51), .const (.int .u8 54), .const (.int .u8 56), .const (.int .u8 53), .const (.int .u8 52), .const (.int .u8 55), .const (.int .u8 55), .const (.int .u8 53), .const (.int .u8 56), .const (.int .u8 48), .const (.int .u8 56)]) rfl rfl el22 sz5 ze5 (by intro v hv; simp only [List.mem_cons, List.not_mem_nil, or_false] at hv; rcases hv with rfl | rfl | rfl | rfl | rfl | rfl | rfl | rfl | rfl | rfl | rfl | rfl | rfl | rfl | rfl | rfl | rfl | rfl | rfl <;> first | rfl | simp [Value.cells, Value.cells]) rfl (by decide) rfl (fun b3 w7 F2 => ?_)
        have gb3 := F2.ge hB
        replace hby1 := hby1.fresh F2
        replace hO1 := hO1.fresh F2
        have hb3 : w7.heap[b3]? = some (.cells #[.int .u8 57, .int .u8 50, .int .u8 50, .int .u8 51, .int .u8 51, .int .u8 55, .int .u8 50, .int .u8 48, .int .u8 51, .int .u8 54, .int .u8 56, .int .u8 53, .int .u8 52, .int .u8 55, .int .u8 55, .int .u8 53, .int .u8 56, .int .u8 48, .int .u8 56] 5) := F2.new
        replace hB := F2.below' hB
        refine At.markB (l := ([57, 50, 50, 51, 51, 55, 50, 48, 51, 54, 56, 53, 52, 55, 55, 53, 56, 48, 56] : List UInt8)) rfl hb3 rfl (by decide) el22 ik5 rfl (fun w8 S1 hby2 => ?_)
        clear hby1
        replace hO1 := hO1.set S1 (hO1.neT hb3 rfl)
        replace hB := S1.below' hB gb3
        clear hb3
        refine At.call en11 rfl rfl (lex_to (.slice (some ⟨b3, 0, none⟩) 19 19) ([57, 50, 50, 51, 51, 55, 50, 48, 51, 54, 56, 53, 52, 55, 55, 53, 56, 48, 56] : List UInt8) m _ ([]) 0 2 (lex_bad (by decide) g3_lex) (BytesAt.keep hby2 (Below.refl _ _)) (cell_keep hm hB)) (fun e w9 hR => ?_)
        obtain ⟨vt2, rfl, hbl4, hO2, ghO2⟩ := hR
        refine ⟨_, rfl, ?_⟩
        replace ghO2 : ∀ g, Value.ownBlock vt2 = some g → w.heap.size ≤ g := fun g h => Nat.le_trans hB.size (ghO2 g h)
        replace hO1 := hO1.below hbl4
        replace hby2 := hby2.below hbl4
        replace hB := Below.andThen hB hbl4
        refine At.move rfl rfl ?_
        refine At.extract rfl rfl rfl ?_
        refine At.extract rfl rfl rfl ?_
        refine At.extract rfl rfl rfl ?_
        refine At.assign rfl rfl ?_
        refine At.assign rfl rfl ?_
        refine At.assign rfl rfl ?_
        refine At.ops0 ?_
        refine At.thenN ?_
        refine At.seq ?_
        obtain ⟨nk, hnk0, hnl0⟩ := rem_pick n0 (n := 100) (by decide)
        have hnk : (bits .and .i64 n0 65535).tmod 100 = (nk : Int) := hnk0
        refine At.region ?_
        refine At.move rfl rfl ?_
        refine At.andI rfl rfl rfl ?_
        refine At.remI rfl rfl (by first | omega | (simp only [List.length_append, List.length_cons, List.length_nil]; omega)) rfl ?_
        refine At.addI rfl rfl rfl (by first | omega | (simp only [List.length_append, List.length_cons, List.length_nil]; omega)) ?_
        refine At.assign rfl rfl ?_
        refine At.ops0 ?_
        refine At.thenN ?_
        refine At.seq ?_
        refine At.set (d := 2) (u := .int .i64 ((nk + 1 : Nat) : Int)) rfl (congrArg (Value.int .i64) (by rw [hnk]; omega)) ?_
        refine At.region ?_
        refine At.assign rfl rfl ?_
        refine At.ops0 ?_
        refine At.thenN ?_
        refine At.seq ?_
        refine At.seq ?_
        refine At.region ?_
        refine At.move rfl rfl ?_
        refine At.ops0 ?_
        refine At.thenN ?_
        refine At.cond (b := great) rfl (fun hc4 => ?_) (fun hc4 => ?_)
        · skip
          refine At.region ?_
          refine At.assign rfl rfl ?_
          refine At.ops0 ?_
          refine At.thenN ?_
          refine At.seq ?_
          refine At.block ?_
          refine At.loop (Nat) (fun j => [(2, .int .i64 ((nk + 1 : Nat) : Int)), (3, .bool great), (9, .bool true), (18, .int .i64 2), (19, .string (bs (nm 65 j)))]) (fun j w10 => Below w.heap.size w w10 ∧ (j ≤ nk)) (fun j => nk - j) (0 : Nat) (Sub.cons rfl (Sub.cons rfl (Sub.cons rfl (Sub.cons rfl (Sub.cons rfl Sub.nil))))) ⟨hB, (Nat.zero_le _)⟩ (fun j w10 hI => ?_)
          clear hB hO1 hby2 hO2
          obtain ⟨hB, hjb⟩ := hI
          show At _ _ [(2, .int .i64 ((nk + 1 : Nat) : Int)), (3, .bool great), (9, .bool true), (18, .int .i64 2), (19, .string (bs (nm 65 j)))] _ _
          have hnl := nm_len 65 j
          refine At.seq ?_
          refine At.seq ?_
          refine At.region ?_
          refine At.move rfl rfl ?_
          refine At.lenB (l := (nm 65 j)) rfl st9 rfl ?_
          refine At.move rfl rfl ?_
          refine At.lss rfl rfl rfl ?_
          refine At.ops0 ?_
          refine At.thenN ?_
          refine At.cond (b := decide (((nm 65 j).length : Int) < ((nk + 1 : Nat) : Int))) rfl (fun hc5 => ?_) (fun hc5 => ?_)
          · skip
            have hc5' := of_decide_eq_true hc5
            refine At.skip ?_
            refine At.thenN ?_
            refine At.block ?_
            refine At.region ?_
            refine At.move rfl rfl ?_
            refine At.catB (a := (nm 65 j)) (b := ([120] : List UInt8)) rfl rfl rfl (by first | omega | (simp only [List.length_append, List.length_cons, List.length_nil]; omega)) ?_
            refine At.assign rfl rfl ?_
            refine At.ops0 ?_
            refine At.inN ?_
            refine At.thenN ?_
            exact fun act_ hact_ => ⟨(j + 1), hact_.sub (Sub.cons rfl (Sub.cons rfl (Sub.cons rfl (Sub.cons rfl (Sub.cons (congrArg (fun l => some (Value.string (bs l))) (nm_succ 65 j)) Sub.nil))))), ⟨hB, (by omega)⟩, by first | omega | (dsimp only; omega)⟩
          · skip
            have hc5' := of_decide_eq_false hc5
            refine At.exit ?_
            refine At.thenE ?_
            refine At.thenE ?_
            refine At.inE ?_
            refine At.thenN ?_
            refine At.seq ?_
            have hjn : j = nk := by omega
            refine At.region ?_
            refine At.move rfl rfl ?_
            refine At.toBytes (l := (nm 65 j)) rfl st9 el22 ik5 (by first | omega | (simp only [List.length_append, List.length_cons, List.length_nil]; omega)) rfl (fun b4 cap2 w11 hgbb2 hbl5 hby3 => ?_)
            replace hB := Below.andThen hB hbl5
            refine At.call en11 rfl rfl (lex_to (.slice (some ⟨b4, 0, none⟩) (nm 65 j).length cap2) (nm 65 j) m _ (lexT (nm 65 j)) (lexA (nm 65 j)) (lexE (nm 65 j)) ⟨rfl, rfl, rfl⟩ (BytesAt.keep hby3 (Below.refl _ _)) (cell_keep hm hB)) (fun e w12 hR => ?_)
            obtain ⟨vt3, rfl, hbl6, hO3, ghO3⟩ := hR
            refine ⟨_, rfl, ?_⟩
            replace ghO3 : ∀ g, Value.ownBlock vt3 = some g → w.heap.size ≤ g := fun g h => Nat.le_trans hB.size (ghO3 g h)
            replace hby3 := hby3.below hbl6
            replace hB := Below.andThen hB hbl6
            refine At.move rfl rfl ?_
            refine At.extract rfl rfl rfl ?_
            refine At.extract rfl rfl rfl ?_
            refine At.extract rfl rfl rfl ?_
            refine At.assign rfl rfl ?_
            refine At.assign rfl rfl ?_
            refine At.assign rfl rfl ?_
            refine At.ops0 ?_
            refine At.thenN ?_
            refine At.seq ?_
            refine At.seq ?_
            refine At.region ?_
            refine At.move rfl rfl ?_
            refine At.gtr rfl rfl rfl ?_
            refine At.ops0 ?_
            refine At.thenN ?_
            refine At.cond (b := decide (60 < ((nk + 1 : Nat) : Int))) rfl (fun hc6 => ?_) (fun hc6 => ?_)
            · skip
              have hc6' := of_decide_eq_true hc6
              refine At.seq ?_
              have hge : lexE (nm 65 j) = 2 := by
                rcases nm_bad nm_A (i := j) (by omega) with h | h
                · exact h
                · omega
              refine At.region ?_
              refine At.move rfl rfl ?_
              refine At.move rfl rfl ?_
              refine At.yes rfl rfl rfl rfl ?_
              refine At.move rfl rfl ?_
              refine At.yes rfl rfl rfl rfl ?_
              refine At.eqI rfl rfl rfl ?_
              refine At.pickT rfl rfl rfl ?_
              refine At.move rfl rfl ?_
              have hbb5 : (decide (2 = 2)) = true := by decide
              refine At.set (d := 118) (u := .bool true) rfl (congrArg Value.bool hbb5) ?_
              refine At.yes rfl rfl rfl rfl ?_
              refine At.move rfl rfl ?_
              refine At.yes rfl rfl rfl rfl ?_
              refine At.eqI rfl rfl rfl ?_
              refine At.pickT rfl rfl rfl ?_
              refine At.assign rfl rfl ?_
              refine At.ops0 ?_
              refine At.thenN ?_
              refine At.retc ?_
              refine At.thenR ?_
              refine At.doneR (ResV.tmp rfl ResV.nil) ?_
              exact ⟨congrArg Ending.returned (congrArg Value.bool (show (decide ((lexE (nm 65 j)) = 2)) = true from decide_eq_true hge)), hB⟩
            · skip
              have hc6' := of_decide_eq_false hc6
              refine At.skip ?_
              refine At.thenN ?_
              refine At.seq ?_
              obtain ⟨U, hU, hUe, hUk, hUt⟩ := nm_ok nm_A (i := j) (by omega)
              refine At.region ?_
              refine At.move rfl rfl ?_
              refine At.move rfl rfl ?_
              refine At.yes rfl rfl rfl rfl ?_
              refine At.move rfl rfl ?_
              refine At.yes rfl rfl rfl rfl ?_
              refine At.eqI rfl rfl rfl ?_
              refine At.pickT rfl rfl rfl ?_
              refine At.move rfl rfl ?_
              have hbb6 : (decide (2 = 2)) = true := by decide
              refine At.set (d := 127) (u := .bool true) rfl (congrArg Value.bool hbb6) ?_
              refine At.yes rfl rfl rfl rfl ?_
              refine At.move rfl rfl ?_
              refine At.yes rfl rfl rfl rfl ?_
              refine At.eqI rfl rfl rfl ?_
              refine At.pickT rfl rfl rfl ?_
              refine At.move rfl rfl ?_
              have hbb7 : (decide ((lexE (nm 65 j)) = 0)) = true := decide_eq_true hUe
              refine At.set (d := 131) (u := .bool true) rfl (congrArg Value.bool hbb7) ?_
              refine At.yes rfl rfl rfl rfl ?_
              refine At.move rfl rfl ?_
              refine At.yes rfl rfl rfl rfl ?_
              refine At.lenSl rfl (Own.slOk hO3) el24 rfl ?_
              refine At.yes rfl rfl rfl rfl ?_
              refine At.eqI rfl rfl rfl ?_
              refine At.pickT rfl rfl rfl ?_
              refine At.move rfl rfl ?_
              have hbb8 : (decide (((lexT (nm 65 j)).length : Int) = 1)) = true := by rw [hU]; simp
              refine At.set (d := 136) (u := .bool true) rfl (congrArg Value.bool hbb8) ?_
              refine At.yes rfl rfl rfl rfl ?_
              refine At.move rfl rfl ?_
              refine At.yes rfl rfl rfl rfl ?_
              refine At.indexAddr (i := 0) rfl rfl (Own.slOk hO3) (lt_of_some (show (lexT (nm 65 j))[0]? = some U by rw [hU]; rfl)) el24 sz31 rfl ?_
              refine At.yes rfl rfl rfl rfl ?_
              refine At.fieldAddr rfl fo31_1 rfl ?_
              refine At.yes rfl rfl rfl rfl ?_
              refine At.load rfl (Ld.cell ag9 (cell_keep ((((OwnR.rows hO3 (fun u hu => (((fun u _ => tk_ok u)) u hu).size))).row (show (lexT (nm 65 j))[0]? = some U by rw [hU]; rfl)).get ((((fun u _ => tk_ok u)) U (List.mem_of_getElem? (show (lexT (nm 65 j))[0]? = some U by rw [hU]; rfl)))).c1) (Below.refl _ _))) rfl ?_
              refine At.yes rfl rfl rfl rfl ?_
              refine At.move rfl rfl ?_
              refine At.yes rfl rfl rfl rfl ?_
              refine At.eqB' (a := U.t) (b := (nm 65 j)) rfl rfl rfl ?_
              refine At.pickT rfl rfl rfl ?_
              refine At.move rfl rfl ?_
              have hbb9 : (decide (U.t = (nm 65 j))) = true := decide_eq_true hUt
              refine At.set (d := 144) (u := .bool true) rfl (congrArg Value.bool hbb9) ?_
              refine At.yes rfl rfl rfl rfl ?_
              refine At.move rfl rfl ?_
              refine At.yes rfl rfl rfl rfl ?_
              refine At.indexAddr (i := 0) rfl rfl (Own.slOk hO3) (lt_of_some (show (lexT (nm 65 j))[0]? = some U by rw [hU]; rfl)) el24 sz31 rfl ?_
              refine At.yes rfl rfl rfl rfl ?_
              refine At.fieldAddr rfl fo31_0 rfl ?_
              refine At.yes rfl rfl rfl rfl ?_
              refine At.load rfl (Ld.cell ag3 (cell_keep ((((OwnR.rows hO3 (fun u hu => (((fun u _ => tk_ok u)) u hu).size))).row (show (lexT (nm 65 j))[0]? = some U by rw [hU]; rfl)).get ((((fun u _ => tk_ok u)) U (List.mem_of_getElem? (show (lexT (nm 65 j))[0]? = some U by rw [hU]; rfl)))).c0) (Below.refl _ _))) rfl ?_
              refine At.yes rfl rfl rfl rfl ?_
              refine At.eqI rfl rfl rfl ?_
              refine At.yes rfl rfl rfl rfl ?_
              refine At.move rfl rfl ?_
              refine At.yes rfl rfl rfl rfl ?_
              refine At.eqB rfl rfl bo4 rfl ?_
              refine At.pickT rfl rfl rfl ?_
              refine At.assign rfl rfl ?_
              refine At.ops0 ?_
              refine At.thenN ?_
              refine At.retc ?_
              refine At.doneR (ResV.tmp rfl ResV.nil) ?_
              exact ⟨congrArg Ending.returned (congrArg Value.bool (show (decide (decide (U.k = 3) = great)) = true from by rw [hUk, hc4]; decide)), hB⟩
        · skip
          refine At.skip ?_
          refine At.thenN ?_
          refine At.seq ?_
          refine At.block ?_
          refine At.loop (Nat) (fun j => [(2, .int .i64 ((nk + 1 : Nat) : Int)), (3, .bool great), (9, .bool true), (18, .int .i64 2), (19, .string (bs (nm 97 j)))]) (fun j w13 => Below w.heap.size w w13 ∧ (j ≤ nk)) (fun j => nk - j) (0 : Nat) (Sub.cons rfl (Sub.cons rfl (Sub.cons rfl (Sub.cons rfl (Sub.cons rfl Sub.nil))))) ⟨hB, (Nat.zero_le _)⟩ (fun j w13 hI => ?_)
          clear hB hO1 hby2 hO2
          obtain ⟨hB, hjb⟩ := hI
          show At _ _ [(2, .int .i64 ((nk + 1 : Nat) : Int)), (3, .bool great), (9, .bool true), (18, .int .i64 2), (19, .string (bs (nm 97 j)))] _ _
          have hnl := nm_len 97 j
          refine At.seq ?_
          refine At.seq ?_
          refine At.region ?_
          refine At.move rfl rfl ?_
          refine At.lenB (l := (nm 97 j)) rfl st9 rfl ?_
          refine At.move rfl rfl ?_
          refine At.lss rfl rfl rfl ?_
          refine At.ops0 ?_
          refine At.thenN ?_
          refine At.cond (b := decide (((nm 97 j).length : Int) < ((nk + 1 : Nat) : Int))) rfl (fun hc7 => ?_) (fun hc7 => ?_)
          · skip
            have hc7' := of_decide_eq_true hc7
            refine At.skip ?_
            refine At.thenN ?_
            refine At.block ?_
            refine At.region ?_
            refine At.move rfl rfl ?_
            refine At.catB (a := (nm 97 j)) (b := ([120] : List UInt8)) rfl rfl rfl (by first | omega | (simp only [List.length_append, List.length_cons, List.length_nil]; omega)) ?_
            refine At.assign rfl rfl ?_
            refine At.ops0 ?_
            refine At.inN ?_
            refine At.thenN ?_
            exact fun act_ hact_ => ⟨(j + 1), hact_.sub (Sub.cons rfl (Sub.cons rfl (Sub.cons rfl (Sub.cons rfl (Sub.cons (congrArg (fun l => some (Value.string (bs l))) (nm_succ 97 j)) Sub.nil))))), ⟨hB, (by omega)⟩, by first | omega | (dsimp only; omega)⟩
          · skip
            have hc7' := of_decide_eq_false hc7
            refine At.exit ?_
            refine At.thenE ?_
            refine At.thenE ?_
            refine At.inE ?_
            refine At.thenN ?_
            refine At.seq ?_
            have hjn : j = nk := by omega
            refine At.region ?_
            refine At.move rfl rfl ?_
            refine At.toBytes (l := (nm 97 j)) rfl st9 el22 ik5 (by first | omega | (simp only [List.length_append, List.length_cons, List.length_nil]; omega)) rfl (fun b5 cap3 w14 hgbb3 hbl7 hby4 => ?_)
            replace hB := Below.andThen hB hbl7
            refine At.call en11 rfl rfl (lex_to (.slice (some ⟨b5, 0, none⟩) (nm 97 j).length cap3) (nm 97 j) m _ (lexT (nm 97 j)) (lexA (nm 97 j)) (lexE (nm 97 j)) ⟨rfl, rfl, rfl⟩ (BytesAt.keep hby4 (Below.refl _ _)) (cell_keep hm hB)) (fun e w15 hR => ?_)
            obtain ⟨vt4, rfl, hbl8, hO4, ghO4⟩ := hR
            refine ⟨_, rfl, ?_⟩
            replace ghO4 : ∀ g, Value.ownBlock vt4 = some g → w.heap.size ≤ g := fun g h => Nat.le_trans hB.size (ghO4 g h)
            replace hby4 := hby4.below hbl8
            replace hB := Below.andThen hB hbl8
            refine At.move rfl rfl ?_
            refine At.extract rfl rfl rfl ?_
            refine At.extract rfl rfl rfl ?_
            refine At.extract rfl rfl rfl ?_
            refine At.assign rfl rfl ?_
            refine At.assign rfl rfl ?_
            refine At.assign rfl rfl ?_
            refine At.ops0 ?_
            refine At.thenN ?_
            refine At.seq ?_
            refine At.seq ?_
            refine At.region ?_
            refine At.move rfl rfl ?_
            refine At.gtr rfl rfl rfl ?_
            refine At.ops0 ?_
            refine At.thenN ?_
            refine At.cond (b := decide (60 < ((nk + 1 : Nat) : Int))) rfl (fun hc8 => ?_) (fun hc8 => ?_)
            · skip
              have hc8' := of_decide_eq_true hc8
              refine At.seq ?_
              have hge : lexE (nm 97 j) = 2 := by
                rcases nm_bad nm_a (i := j) (by omega) with h | h
                · exact h
                · omega
              refine At.region ?_
              refine At.move rfl rfl ?_
              refine At.move rfl rfl ?_
              refine At.yes rfl rfl rfl rfl ?_
              refine At.move rfl rfl ?_
              refine At.yes rfl rfl rfl rfl ?_
              refine At.eqI rfl rfl rfl ?_
              refine At.pickT rfl rfl rfl ?_
              refine At.move rfl rfl ?_
              have hbb10 : (decide (2 = 2)) = true := by decide
              refine At.set (d := 118) (u := .bool true) rfl (congrArg Value.bool hbb10) ?_
              refine At.yes rfl rfl rfl rfl ?_
              refine At.move rfl rfl ?_
              refine At.yes rfl rfl rfl rfl ?_
              refine At.eqI rfl rfl rfl ?_
              refine At.pickT rfl rfl rfl ?_
              refine At.assign rfl rfl ?_
              refine At.ops0 ?_
              refine At.thenN ?_
              refine At.retc ?_
              refine At.thenR ?_
              refine At.doneR (ResV.tmp rfl ResV.nil) ?_
              exact ⟨congrArg Ending.returned (congrArg Value.bool (show (decide ((lexE (nm 97 j)) = 2)) = true from decide_eq_true hge)), hB⟩
            · skip
              have hc8' := of_decide_eq_false hc8
              refine At.skip ?_
              refine At.thenN ?_
              refine At.seq ?_
              obtain ⟨U, hU, hUe, hUk, hUt⟩ := nm_ok nm_a (i := j) (by omega)
              refine At.region ?_
              refine At.move rfl rfl ?_
              refine At.move rfl rfl ?_
              refine At.yes rfl rfl rfl rfl ?_
              refine At.move rfl rfl ?_
              refine At.yes rfl rfl rfl rfl ?_
              refine At.eqI rfl rfl rfl ?_
              refine At.pickT rfl rfl rfl ?_
              refine At.move rfl rfl ?_
              have hbb11 : (decide (2 = 2)) = true := by decide
              refine At.set (d := 127) (u := .bool true) rfl (congrArg Value.bool hbb11) ?_
              refine At.yes rfl rfl rfl rfl ?_
              refine At.move rfl rfl ?_
              refine At.yes rfl rfl rfl rfl ?_
              refine At.eqI rfl rfl rfl ?_
              refine At.pickT rfl rfl rfl ?_
              refine At.move rfl rfl ?_
              have hbb12 : (decide ((lexE (nm 97 j)) = 0)) = true := decide_eq_true hUe
              refine At.set (d := 131) (u := .bool true) rfl (congrArg Value.bool hbb12) ?_
              refine At.yes rfl rfl rfl rfl ?_
              refine At.move rfl rfl ?_
              refine At.yes rfl rfl rfl rfl ?_
              refine At.lenSl rfl (Own.slOk hO4) el24 rfl ?_
              refine At.yes rfl rfl rfl rfl ?_
              refine At.eqI rfl rfl rfl ?_
              refine At.pickT rfl rfl rfl ?_
              refine At.move rfl rfl ?_
              have hbb13 : (decide (((lexT (nm 97 j)).length : Int) = 1)) = true := by rw [hU]; simp
              refine At.set (d := 136) (u := .bool true) rfl (congrArg Value.bool hbb13) ?_
              refine At.yes rfl rfl rfl rfl ?_
              refine At.move rfl rfl ?_
              refine At.yes rfl rfl rfl rfl ?_
              refine At.indexAddr (i := 0) rfl rfl (Own.slOk hO4) (lt_of_some (show (lexT (nm 97 j))[0]? = some U by rw [hU]; rfl)) el24 sz31 rfl ?_
              refine At.yes rfl rfl rfl rfl ?_
              refine At.fieldAddr rfl fo31_1 rfl ?_
              refine At.yes rfl rfl rfl rfl ?_
              refine At.load rfl (Ld.cell ag9 (cell_keep ((((OwnR.rows hO4 (fun u hu => (((fun u _ => tk_ok u)) u hu).size))).row (show (lexT (nm 97 j))[0]? = some U by rw [hU]; rfl)).get ((((fun u _ => tk_ok u)) U (List.mem_of_getElem? (show (lexT (nm 97 j))[0]? = some U by rw [hU]; rfl)))).c1) (Below.refl _ _))) rfl ?_
              refine At.yes rfl rfl rfl rfl ?_
              refine At.move rfl rfl ?_
              refine At.yes rfl rfl rfl rfl ?_
              refine At.eqB' (a := U.t) (b := (nm 97 j)) rfl rfl rfl ?_
              refine At.pickT rfl rfl rfl ?_
              refine At.move rfl rfl ?_
              have hbb14 : (decide (U.t = (nm 97 j))) = true := decide_eq_true hUt
              refine At.set (d := 144) (u := .bool true) rfl (congrArg Value.bool hbb14) ?_
              refine At.yes rfl rfl rfl rfl ?_
              refine At.move rfl rfl ?_
              refine At.yes rfl rfl rfl rfl ?_
              refine At.indexAddr (i := 0) rfl rfl (Own.slOk hO4) (lt_of_some (show (lexT (nm 97 j))[0]? = some U by rw [hU]; rfl)) el24 sz31 rfl ?_
              refine At.yes rfl rfl rfl rfl ?_
              refine At.fieldAddr rfl fo31_0 rfl ?_
              refine At.yes rfl rfl rfl rfl ?_
              refine At.load rfl (Ld.cell ag3 (cell_keep ((((OwnR.rows hO4 (fun u hu => (((fun u _ => tk_ok u)) u hu).size))).row (show (lexT (nm 97 j))[0]? = some U by rw [hU]; rfl)).get ((((fun u _ => tk_ok u)) U (List.mem_of_getElem? (show (lexT (nm 97 j))[0]? = some U by rw [hU]; rfl)))).c0) (Below.refl _ _))) rfl ?_
              refine At.yes rfl rfl rfl rfl ?_
              refine At.eqI rfl rfl rfl ?_
              refine At.yes rfl rfl rfl rfl ?_
              refine At.move rfl rfl ?_
              refine At.yes rfl rfl rfl rfl ?_
              refine At.eqB rfl rfl bo4 rfl ?_
              refine At.pickT rfl rfl rfl ?_
              refine At.assign rfl rfl ?_
              refine At.ops0 ?_
              refine At.thenN ?_
              refine At.retc ?_
              refine At.doneR (ResV.tmp rfl ResV.nil) ?_
              exact ⟨congrArg Ending.returned (congrArg Value.bool (show (decide (decide (U.k = 3) = great)) = true from by rw [hUk, hc4]; decide)), hB⟩
      · skip
        have hc3' := of_decide_eq_false hc3
        refine At.skip ?_
        refine At.thenN ?_
        refine At.seq ?_
        obtain ⟨T, hT, hTk, hTn, hTt⟩ := num_lex hzd hzv hVm (by assumption)
        refine At.region ?_
        refine At.move rfl rfl ?_
        refine At.toBytes (l := z) rfl st9 el22 ik5 (by first | omega | (simp only [List.length_append, List.length_cons, List.length_nil]; omega)) rfl (fun b6 cap4 w16 hgbb4 hbl9 hby5 => ?_)
        replace hB := Below.andThen hB hbl9
        refine At.call en11 rfl rfl (lex_to (.slice (some ⟨b6, 0, none⟩) z.length cap4) z m _ ([T]) 0 0 (lex_ok (by first | omega | decide) hT) (BytesAt.keep hby5 (Below.refl _ _)) (cell_keep hm hB)) (fun e w17 hR => ?_)
        obtain ⟨vt5, rfl, hbl10, hO5, ghO5⟩ := hR
        refine ⟨_, rfl, ?_⟩
        replace ghO5 : ∀ g, Value.ownBlock vt5 = some g → w.heap.size ≤ g := fun g h => Nat.le_trans hB.size (ghO5 g h)
        replace hby5 := hby5.below hbl10
        replace hB := Below.andThen hB hbl10
        refine At.move rfl rfl ?_
        refine At.extract rfl rfl rfl ?_
        refine At.extract rfl rfl rfl ?_
        refine At.extract rfl rfl rfl ?_
        refine At.assign rfl rfl ?_
        refine At.assign rfl rfl ?_
        refine At.assign rfl rfl ?_
        refine At.ops0 ?_
        refine At.thenN ?_
        refine At.seq ?_
        refine At.seq ?_
        refine At.region ?_
        refine At.move rfl rfl ?_
        refine At.lenSl rfl (Own.slOk hO5) el24 rfl ?_
        refine At.neI rfl rfl rfl ?_
        refine At.move rfl rfl ?_
        have hbb15 : ((!decide (([T].length : Int) = 1))) = false := by simp
        refine At.set (d := 59) (u := .bool false) rfl (congrArg Value.bool hbb15) ?_
        refine At.yes rfl rfl rfl rfl ?_
        refine At.move rfl rfl ?_
        refine At.yes rfl rfl rfl rfl ?_
        refine At.neI rfl rfl rfl ?_
        refine At.pickF rfl rfl rfl ?_
        refine At.move rfl rfl ?_
        have hbb16 : ((!decide (0 = 0))) = false := by decide
        refine At.set (d := 63) (u := .bool false) rfl (congrArg Value.bool hbb16) ?_
        refine At.yes rfl rfl rfl rfl ?_
        refine At.move rfl rfl ?_
        refine At.yes rfl rfl rfl rfl ?_
        refine At.indexAddr (i := 0) rfl rfl (Own.slOk hO5) (lt_of_some (show [T][0]? = some T from rfl)) el24 sz31 rfl ?_
        refine At.yes rfl rfl rfl rfl ?_
        refine At.fieldAddr rfl fo31_2 rfl ?_
        refine At.yes rfl rfl rfl rfl ?_
        refine At.load rfl (Ld.cell ag3 (cell_keep ((((OwnR.rows hO5 (fun u hu => (((fun u _ => tk_ok u)) u hu).size))).row (show [T][0]? = some T from rfl)).get ((((fun u _ => tk_ok u)) T (List.mem_of_getElem? (show [T][0]? = some T from rfl)))).c2) (Below.refl _ _))) rfl ?_
        refine At.yes rfl rfl rfl rfl ?_
        refine At.move rfl rfl ?_
        refine At.yes rfl rfl rfl rfl ?_
        refine At.neI rfl rfl rfl ?_
        refine At.pickF rfl rfl rfl ?_
        refine At.move rfl rfl ?_
        have hbb17 : ((!decide (T.n = (V : Int)))) = false := by rw [hTn]; simp
        refine At.set (d := 71) (u := .bool false) rfl (congrArg Value.bool hbb17) ?_
        refine At.yes rfl rfl rfl rfl ?_
        refine At.move rfl rfl ?_
        refine At.yes rfl rfl rfl rfl ?_
        refine At.indexAddr (i := 0) rfl rfl (Own.slOk hO5) (lt_of_some (show [T][0]? = some T from rfl)) el24 sz31 rfl ?_
        refine At.yes rfl rfl rfl rfl ?_
        refine At.fieldAddr rfl fo31_0 rfl ?_
        refine At.yes rfl rfl rfl rfl ?_
        refine At.load rfl (Ld.cell ag3 (cell_keep ((((OwnR.rows hO5 (fun u hu => (((fun u _ => tk_ok u)) u hu).size))).row (show [T][0]? = some T from rfl)).get ((((fun u _ => tk_ok u)) T (List.mem_of_getElem? (show [T][0]? = some T from rfl)))).c0) (Below.refl _ _))) rfl ?_
        refine At.yes rfl rfl rfl rfl ?_
        refine At.neI rfl rfl rfl ?_
        refine At.pickF rfl rfl rfl ?_
        refine At.move rfl rfl ?_
        have hbb18 : ((!decide (T.k = 1))) = false := by rw [hTk]; decide
        refine At.set (d := 78) (u := .bool false) rfl (congrArg Value.bool hbb18) ?_
        refine At.yes rfl rfl rfl rfl ?_
        refine At.move rfl rfl ?_
        refine At.yes rfl rfl rfl rfl ?_
        refine At.indexAddr (i := 0) rfl rfl (Own.slOk hO5) (lt_of_some (show [T][0]? = some T from rfl)) el24 sz31 rfl ?_
        refine At.yes rfl rfl rfl rfl ?_
        refine At.fieldAddr rfl fo31_1 rfl ?_
        refine At.yes rfl rfl rfl rfl ?_
        refine At.load rfl (Ld.cell ag9 (cell_keep ((((OwnR.rows hO5 (fun u hu => (((fun u _ => tk_ok u)) u hu).size))).row (show [T][0]? = some T from rfl)).get ((((fun u _ => tk_ok u)) T (List.mem_of_getElem? (show [T][0]? = some T from rfl)))).c1) (Below.refl _ _))) rfl ?_
        refine At.yes rfl rfl rfl rfl ?_
        refine At.move rfl rfl ?_
        refine At.yes rfl rfl rfl rfl ?_
        refine At.neB' (a := T.t) (b := z) rfl rfl rfl ?_
        refine At.pickF rfl rfl rfl ?_
        refine At.ops0 ?_
        refine At.thenN ?_
        have hb : ((!decide (T.t = z))) = false := by rw [hTt]; simp
        refine At.set (d := 85) (u := .bool false) rfl (congrArg Value.bool hb) ?_
        refine At.condF rfl ?_
        refine At.skip ?_
        refine At.thenN ?_
        refine At.seq ?_
        refine At.region ?_
        refine At.buildSlice (xs := [.const (.int .u8 57), .const (.int .u8 50), .const (.int .u8 50), .const (.int .u8 51), .const (.int .u8 51), .const (.int .u8 55), .const (.int .u8 50), .const (.int .u8 48), .const (.int .u8 51), .const (.int .u8 54), .const (.int .u8 56), .const (.int .u8 53), .const (.int .u8 52), .const (.int .u8 55), .const (.int .u8 55), .const (.int .u8 53), .const (.int .u8 56), .const (.int .u8 48), .const (.int .u8 56)]) rfl rfl el22 sz5 ze5 (by intro v hv; simp only [List.mem_cons, List.not_mem_nil, or_false] at hv; rcases hv with rfl | rfl | rfl | rfl | rfl | rfl | rfl | rfl | rfl | rfl | rfl | rfl | rfl | rfl | rfl | rfl | rfl | rfl | rfl <;> first | rfl | simp [Value.cells, Value.cells]) rfl (by decide) rfl (fun b7 w18 F3 => ?_)
        have gb7 := F3.ge hB
        replace hby5 := hby5.fresh F3
        replace hO5 := hO5.fresh F3
        have hb7 : w18.heap[b7]? = some (.cells #[.int .u8 57, .int .u8 50, .int .u8 50, .int .u8 51, .int .u8 51, .int .u8 55, .int .u8 50, .int .u8 48, .int .u8 51, .int .u8 54, .int .u8 56, .int .u8 53, .int .u8 52, .int .u8 55, .int .u8 55, .int .u8 53, .int .u8 56, .int .u8 48, .int .u8 56] 5) := F3.new
        replace hB := F3.below' hB
        refine At.markB (l := ([57, 50, 50, 51, 51, 55, 50, 48, 51, 54, 56, 53, 52, 55, 55, 53, 56, 48, 56] : List UInt8)) rfl hb7 rfl (by decide) el22 ik5 rfl (fun w19 S2 hby6 => ?_)
        clear hby5
        replace hO5 := hO5.set S2 (hO5.neT hb7 rfl)
        replace hB := S2.below' hB gb7
        clear hb7
        refine At.call en11 rfl rfl (lex_to (.slice (some ⟨b7, 0, none⟩) 19 19) ([57, 50, 50, 51, 51, 55, 50, 48, 51, 54, 56, 53, 52, 55, 55, 53, 56, 48, 56] : List UInt8) m _ ([]) 0 2 (lex_bad (by decide) g3_lex) (BytesAt.keep hby6 (Below.refl _ _)) (cell_keep hm hB)) (fun e w20 hR => ?_)
        obtain ⟨vt6, rfl, hbl11, hO6, ghO6⟩ := hR
        refine ⟨_, rfl, ?_⟩
        replace ghO6 : ∀ g, Value.ownBlock vt6 = some g → w.heap.size ≤ g := fun g h => Nat.le_trans hB.size (ghO6 g h)
        replace hO5 := hO5.below hbl11
        replace hby6 := hby6.below hbl11
        replace hB := Below.andThen hB hbl11
        refine At.move rfl rfl ?_
        refine At.extract rfl rfl rfl ?_
        refine At.extract rfl rfl rfl ?_
        refine At.extract rfl rfl rfl ?_
        refine At.assign rfl rfl ?_
        refine At.assign rfl rfl ?_
        refine At.assign rfl rfl ?_
        refine At.ops0 ?_
        refine At.thenN ?_
        refine At.seq ?_
        obtain ⟨nk, hnk0, hnl0⟩ := rem_pick n0 (n := 100) (by decide)
        have hnk : (bits .and .i64 n0 65535).tmod 100 = (nk : Int) := hnk0
        refine At.region ?_
        refine At.move rfl rfl ?_
        refine At.andI rfl rfl rfl ?_
        refine At.remI rfl rfl (by first | omega | (simp only [List.length_append, List.length_cons, List.length_nil]; omega)) rfl ?_
        refine At.addI rfl rfl rfl (by first | omega | (simp only [List.length_append, List.length_cons, List.length_nil]; omega)) ?_
        refine At.assign rfl rfl ?_
        refine At.ops0 ?_
        refine At.thenN ?_
        refine At.seq ?_
        refine At.set (d := 2) (u := .int .i64 ((nk + 1 : Nat) : Int)) rfl (congrArg (Value.int .i64) (by rw [hnk]; omega)) ?_
        refine At.region ?_
        refine At.assign rfl rfl ?_
        refine At.ops0 ?_
        refine At.thenN ?_
        refine At.seq ?_
        refine At.seq ?_
        refine At.region ?_
        refine At.move rfl rfl ?_
        refine At.ops0 ?_
        refine At.thenN ?_
        refine At.cond (b := great) rfl (fun hc9 => ?_) (fun hc9 => ?_)
        · skip
          refine At.region ?_
          refine At.assign rfl rfl ?_
          refine At.ops0 ?_
          refine At.thenN ?_
          refine At.seq ?_
          refine At.block ?_
          refine At.loop (Nat) (fun j => [(2, .int .i64 ((nk + 1 : Nat) : Int)), (3, .bool great), (9, .bool true), (18, .int .i64 2), (19, .string (bs (nm 65 j)))]) (fun j w21 => Below w.heap.size w w21 ∧ (j ≤ nk)) (fun j => nk - j) (0 : Nat) (Sub.cons rfl (Sub.cons rfl (Sub.cons rfl (Sub.cons rfl (Sub.cons rfl Sub.nil))))) ⟨hB, (Nat.zero_le _)⟩ (fun j w21 hI => ?_)
          clear hB hO5 hby6 hO6
          obtain ⟨hB, hjb⟩ := hI
          show At _ _ [(2, .int .i64 ((nk + 1 : Nat) : Int)), (3, .bool great), (9, .bool true), (18, .int .i64 2), (19, .string (bs (nm 65 j)))] _ _
          have hnl := nm_len 65 j
          refine At.seq ?_
          refine At.seq ?_
          refine At.region ?_
          refine At.move rfl rfl ?_
          refine At.lenB (l := (nm 65 j)) rfl st9 rfl ?_
          refine At.move rfl rfl ?_
          refine At.lss rfl rfl rfl ?_
          refine At.ops0 ?_
          refine At.thenN ?_
          refine At.cond (b := decide (((nm 65 j).length : Int) < ((nk + 1 : Nat) : Int))) rfl (fun hc10 => ?_) (fun hc10 => ?_)
          · skip
            have hc10' := of_decide_eq_true hc10
            refine At.skip ?_
            refine At.thenN ?_
            refine At.block ?_
            refine At.region ?_
            refine At.move rfl rfl ?_
            refine At.catB (a := (nm 65 j)) (b := ([120] : List UInt8)) rfl rfl rfl (by first | omega | (simp only [List.length_append, List.length_cons, List.length_nil]; omega)) ?_
            refine At.assign rfl rfl ?_
            refine At.ops0 ?_
            refine At.inN ?_
            refine At.thenN ?_
            exact fun act_ hact_ => ⟨(j + 1), hact_.sub (Sub.cons rfl (Sub.cons rfl (Sub.cons rfl (Sub.cons rfl (Sub.cons (congrArg (fun l => some (Value.string (bs l))) (nm_succ 65 j)) Sub.nil))))), ⟨hB, (by omega)⟩, by first | omega | (dsimp only; omega)⟩
          · skip
            have hc10' := of_decide_eq_false hc10
            refine At.exit ?_
            refine At.thenE ?_
            refine At.thenE ?_
            refine At.inE ?_
            refine At.thenN ?_
            refine At.seq ?_
            have hjn : j = nk := by omega
            refine At.region ?_
            refine At.move rfl rfl ?_
            refine At.toBytes (l := (nm 65 j)) rfl st9 el22 ik5 (by first | omega | (simp only [List.length_append, List.length_cons, List.length_nil]; omega)) rfl (fun b8 cap5 w22 hgbb5 hbl12 hby7 => ?_)
            replace hB := Below.andThen hB hbl12
            refine At.call en11 rfl rfl (lex_to (.slice (some ⟨b8, 0, none⟩) (nm 65 j).length cap5) (nm 65 j) m _ (lexT (nm 65 j)) (lexA (nm 65 j)) (lexE (nm 65 j)) ⟨rfl, rfl, rfl⟩ (BytesAt.keep hby7 (Below.refl _ _)) (cell_keep hm hB)) (fun e w23 hR => ?_)
            obtain ⟨vt7, rfl, hbl13, hO7, ghO7⟩ := hR
            refine ⟨_, rfl, ?_⟩
            replace ghO7 : ∀ g, Value.ownBlock vt7 = some g → w.heap.size ≤ g := fun g h => Nat.le_trans hB.size (ghO7 g h)
            replace hby7 := hby7.below hbl13
            replace hB := Below.andThen hB hbl13
            refine At.move rfl rfl ?_
            refine At.extract rfl rfl rfl ?_
            refine At.extract rfl rfl rfl ?_
            refine At.extract rfl rfl rfl ?_
            refine At.assign rfl rfl ?_
            refine At.assign rfl rfl ?_
            refine At.assign rfl rfl ?_
            refine At.ops0 ?_
            refine At.thenN ?_
            refine At.seq ?_
            refine At.seq ?_
            refine At.region ?_
            refine At.move rfl rfl ?_
            refine At.gtr rfl rfl rfl ?_
            refine At.ops0 ?_
            refine At.thenN ?_
            refine At.cond (b := decide (60 < ((nk + 1 : Nat) : Int))) rfl (fun hc11 => ?_) (fun hc11 => ?_)
            · skip
              have hc11' := of_decide_eq_true hc11
              refine At.seq ?_
              have hge : lexE (nm 65 j) = 2 := by
                rcases nm_bad nm_A (i := j) (by omega) with h | h
                · exact h
                · omega
              refine At.region ?_
              refine At.move rfl rfl ?_
              refine At.move rfl rfl ?_
              refine At.yes rfl rfl rfl rfl ?_
              refine At.move rfl rfl ?_
              refine At.yes rfl rfl rfl rfl ?_
              refine At.eqI rfl rfl rfl ?_
              refine At.pickT rfl rfl rfl ?_
              refine At.move rfl rfl ?_
              have hbb19 : (decide (2 = 2)) = true := by decide
              refine At.set (d := 118) (u := .bool true) rfl (congrArg Value.bool hbb19) ?_
              refine At.yes rfl rfl rfl rfl ?_
              refine At.move rfl rfl ?_
              refine At.yes rfl rfl rfl rfl ?_
              refine At.eqI rfl rfl rfl ?_
              refine At.pickT rfl rfl rfl ?_
              refine At.assign rfl rfl ?_
              refine At.ops0 ?_
              refine At.thenN ?_
              refine At.retc ?_
              refine At.thenR ?_
              refine At.doneR (ResV.tmp rfl ResV.nil) ?_
              exact ⟨congrArg Ending.returned (congrArg Value.bool (show (decide ((lexE (nm 65 j)) = 2)) = true from decide_eq_true hge)), hB⟩
            · skip
              have hc11' := of_decide_eq_false hc11
              refine At.skip ?_
              refine At.thenN ?_
              refine At.seq ?_
              obtain ⟨U, hU, hUe, hUk, hUt⟩ := nm_ok nm_A (i := j) (by omega)
              refine At.region ?_
              refine At.move rfl rfl ?_
              refine At.move rfl rfl ?_
              refine At.yes rfl rfl rfl rfl ?_
              refine At.move rfl rfl ?_
              refine At.yes rfl rfl rfl rfl ?_
              refine At.eqI rfl rfl rfl ?_
              refine At.pickT rfl rfl rfl ?_
              refine At.move rfl rfl ?_
              have hbb20 : (decide (2 = 2)) = true := by decide
              refine At.set (d := 127) (u := .bool true) rfl (congrArg Value.bool hbb20) ?_
              refine At.yes rfl rfl rfl rfl ?_
              refine At.move rfl rfl ?_
              refine At.yes rfl rfl rfl rfl ?_
              refine At.eqI rfl rfl rfl ?_
              refine At.pickT rfl rfl rfl ?_
              refine At.move rfl rfl ?_
              have hbb21 : (decide ((lexE (nm 65 j)) = 0)) = true := decide_eq_true hUe
              refine At.set (d := 131) (u := .bool true) rfl (congrArg Value.bool hbb21) ?_
              refine At.yes rfl rfl rfl rfl ?_
              refine At.move rfl rfl ?_
              refine At.yes rfl rfl rfl rfl ?_
              refine At.lenSl rfl (Own.slOk hO7) el24 rfl ?_
              refine At.yes rfl rfl rfl rfl ?_
              refine At.eqI rfl rfl rfl ?_
              refine At.pickT rfl rfl rfl ?_
              refine At.move rfl rfl ?_
              have hbb22 : (decide (((lexT (nm 65 j)).length : Int) = 1)) = true := by rw [hU]; simp
              refine At.set (d := 136) (u := .bool true) rfl (congrArg Value.bool hbb22) ?_
              refine At.yes rfl rfl rfl rfl ?_
              refine At.move rfl rfl ?_
              refine At.yes rfl rfl rfl rfl ?_
              refine At.indexAddr (i := 0) rfl rfl (Own.slOk hO7) (lt_of_some (show (lexT (nm 65 j))[0]? = some U by rw [hU]; rfl)) el24 sz31 rfl ?_
              refine At.yes rfl rfl rfl rfl ?_
              refine At.fieldAddr rfl fo31_1 rfl ?_
              refine At.yes rfl rfl rfl rfl ?_
              refine At.load rfl (Ld.cell ag9 (cell_keep ((((OwnR.rows hO7 (fun u hu => (((fun u _ => tk_ok u)) u hu).size))).row (show (lexT (nm 65 j))[0]? = some U by rw [hU]; rfl)).get ((((fun u _ => tk_ok u)) U (List.mem_of_getElem? (show (lexT (nm 65 j))[0]? = some U by rw [hU]; rfl)))).c1) (Below.refl _ _))) rfl ?_
              refine At.yes rfl rfl rfl rfl ?_
              refine At.move rfl rfl ?_
              refine At.yes rfl rfl rfl rfl ?_
              refine At.eqB' (a := U.t) (b := (nm 65 j)) rfl rfl rfl ?_
              refine At.pickT rfl rfl rfl ?_
              refine At.move rfl rfl ?_
              have hbb23 : (decide (U.t = (nm 65 j))) = true := decide_eq_true hUt
              refine At.set (d := 144) (u := .bool true) rfl (congrArg Value.bool hbb23) ?_
              refine At.yes rfl rfl rfl rfl ?_
              refine At.move rfl rfl ?_
              refine At.yes rfl rfl rfl rfl ?_
              refine At.indexAddr (i := 0) rfl rfl (Own.slOk hO7) (lt_of_some (show (lexT (nm 65 j))[0]? = some U by rw [hU]; rfl)) el24 sz31 rfl ?_
              refine At.yes rfl rfl rfl rfl ?_
              refine At.fieldAddr rfl fo31_0 rfl ?_
              refine At.yes rfl rfl rfl rfl ?_
              refine At.load rfl (Ld.cell ag3 (cell_keep ((((OwnR.rows hO7 (fun u hu => (((fun u _ => tk_ok u)) u hu).size))).row (show (lexT (nm 65 j))[0]? = some U by rw [hU]; rfl)).get ((((fun u _ => tk_ok u)) U (List.mem_of_getElem? (show (lexT (nm 65 j))[0]? = some U by rw [hU]; rfl)))).c0) (Below.refl _ _))) rfl ?_
              refine At.yes rfl rfl rfl rfl ?_
              refine At.eqI rfl rfl rfl ?_
              refine At.yes rfl rfl rfl rfl ?_
              refine At.move rfl rfl ?_
              refine At.yes rfl rfl rfl rfl ?_
              refine At.eqB rfl rfl bo4 rfl ?_
              refine At.pickT rfl rfl rfl ?_
              refine At.assign rfl rfl ?_
              refine At.ops0 ?_
              refine At.thenN ?_
              refine At.retc ?_
              refine At.doneR (ResV.tmp rfl ResV.nil) ?_
              exact ⟨congrArg Ending.returned (congrArg Value.bool (show (decide (decide (U.k = 3) = great)) = true from by rw [hUk, hc9]; decide)), hB⟩
        · skip
          refine At.skip ?_
          refine At.thenN ?_
          refine At.seq ?_
          refine At.block ?_
          refine At.loop (Nat) (fun j => [(2, .int .i64 ((nk + 1 : Nat) : Int)), (3, .bool great), (9, .bool true), (18, .int .i64 2), (19, .string (bs (nm 97 j)))]) (fun j w24 => Below w.heap.size w w24 ∧ (j ≤ nk)) (fun j => nk - j) (0 : Nat) (Sub.cons rfl (Sub.cons rfl (Sub.cons rfl (Sub.cons rfl (Sub.cons rfl Sub.nil))))) ⟨hB, (Nat.zero_le _)⟩ (fun j w24 hI => ?_)
          clear hB hO5 hby6 hO6
          obtain ⟨hB, hjb⟩ := hI
          show At _ _ [(2, .int .i64 ((nk + 1 : Nat) : Int)), (3, .bool great), (9, .bool true), (18, .int .i64 2), (19, .string (bs (nm 97 j)))] _ _
          have hnl := nm_len 97 j
          refine At.seq ?_
          refine At.seq ?_
          refine At.region ?_
          refine At.move rfl rfl ?_
          refine At.lenB (l := (nm 97 j)) rfl st9 rfl ?_
          refine At.move rfl rfl ?_
          refine At.lss rfl rfl rfl ?_
          refine At.ops0 ?_
          refine At.thenN ?_
          refine At.cond (b := decide (((nm 97 j).length : Int) < ((nk + 1 : Nat) : Int))) rfl (fun hc12 => ?_) (fun hc12 => ?_)
          · skip
            have hc12' := of_decide_eq_true hc12
            refine At.skip ?_
            refine At.thenN ?_
            refine At.block ?_
            refine At.region ?_
            refine At.move rfl rfl ?_
            refine At.catB (a := (nm 97 j)) (b := ([120] : List UInt8)) rfl rfl rfl (by first | omega | (simp only [List.length_append, List.length_cons, List.length_nil]; omega)) ?_
            refine At.assign rfl rfl ?_
            refine At.ops0 ?_
            refine At.inN ?_
            refine At.thenN ?_
            exact fun act_ hact_ => ⟨(j + 1), hact_.sub (Sub.cons rfl (Sub.cons rfl (Sub.cons rfl (Sub.cons rfl (Sub.cons (congrArg (fun l => some (Value.string (bs l))) (nm_succ 97 j)) Sub.nil))))), ⟨hB, (by omega)⟩, by first | omega | (dsimp only; omega)⟩
          · skip
            have hc12' := of_decide_eq_false hc12
            refine At.exit ?_
            refine At.thenE ?_
            refine At.thenE ?_
            refine At.inE ?_
            refine At.thenN ?_
            refine At.seq ?_
            have hjn : j = nk := by omega
            refine At.region ?_
            refine At.move rfl rfl ?_
            refine At.toBytes (l := (nm 97 j)) rfl st9 el22 ik5 (by first | omega | (simp only [List.length_append, List.length_cons, List.length_nil]; omega)) rfl (fun b9 cap6 w25 hgbb6 hbl14 hby8 => ?_)
            replace hB := Below.andThen hB hbl14
            refine At.call en11 rfl rfl (lex_to (.slice (some ⟨b9, 0, none⟩) (nm 97 j).length cap6) (nm 97 j) m _ (lexT (nm 97 j)) (lexA (nm 97 j)) (lexE (nm 97 j)) ⟨rfl, rfl, rfl⟩ (BytesAt.keep hby8 (Below.refl _ _)) (cell_keep hm hB)) (fun e w26 hR => ?_)
            obtain ⟨vt8, rfl, hbl15, hO8, ghO8⟩ := hR
            refine ⟨_, rfl, ?_⟩
            replace ghO8 : ∀ g, Value.ownBlock vt8 = some g → w.heap.size ≤ g := fun g h => Nat.le_trans hB.size (ghO8 g h)
            replace hby8 := hby8.below hbl15
            replace hB := Below.andThen hB hbl15
            refine At.move rfl rfl ?_
            refine At.extract rfl rfl rfl ?_
            refine At.extract rfl rfl rfl ?_
            refine At.extract rfl rfl rfl ?_
            refine At.assign rfl rfl ?_
            refine At.assign rfl rfl ?_
            refine At.assign rfl rfl ?_
            refine At.ops0 ?_
            refine At.thenN ?_
            refine At.seq ?_
            refine At.seq ?_
            refine At.region ?_
            refine At.move rfl rfl ?_
            refine At.gtr rfl rfl rfl ?_
            refine At.ops0 ?_
            refine At.thenN ?_
            refine At.cond (b := decide (60 < ((nk + 1 : Nat) : Int))) rfl (fun hc13 => ?_) (fun hc13 => ?_)
            · skip
              have hc13' := of_decide_eq_true hc13
              refine At.seq ?_
              have hge : lexE (nm 97 j) = 2 := by
                rcases nm_bad nm_a (i := j) (by omega) with h | h
                · exact h
                · omega
              refine At.region ?_
              refine At.move rfl rfl ?_
              refine At.move rfl rfl ?_
              refine At.yes rfl rfl rfl rfl ?_
              refine At.move rfl rfl ?_
              refine At.yes rfl rfl rfl rfl ?_
              refine At.eqI rfl rfl rfl ?_
              refine At.pickT rfl rfl rfl ?_
              refine At.move rfl rfl ?_
              have hbb24 : (decide (2 = 2)) = true := by decide
              refine At.set (d := 118) (u := .bool true) rfl (congrArg Value.bool hbb24) ?_
              refine At.yes rfl rfl rfl rfl ?_
              refine At.move rfl rfl ?_
              refine At.yes rfl rfl rfl rfl ?_
              refine At.eqI rfl rfl rfl ?_
              refine At.pickT rfl rfl rfl ?_
              refine At.assign rfl rfl ?_
              refine At.ops0 ?_
              refine At.thenN ?_
              refine At.retc ?_
              refine At.thenR ?_
              refine At.doneR (ResV.tmp rfl ResV.nil) ?_
              exact ⟨congrArg Ending.returned (congrArg Value.bool (show (decide ((lexE (nm 97 j)) = 2)) = true from decide_eq_true hge)), hB⟩
            · skip
              have hc13' := of_decide_eq_false hc13
              refine At.skip ?_
              refine At.thenN ?_
              refine At.seq ?_
              obtain ⟨U, hU, hUe, hUk, hUt⟩ := nm_ok nm_a (i := j) (by omega)
              refine At.region ?_
              refine At.move rfl rfl ?_
              refine At.move rfl rfl ?_
              refine At.yes rfl rfl rfl rfl ?_
              refine At.move rfl rfl ?_
              refine At.yes rfl rfl rfl rfl ?_
              refine At.eqI rfl rfl rfl ?_
              refine At.pickT rfl rfl rfl ?_
              refine At.move rfl rfl ?_
              have hbb25 : (decide (2 = 2)) = true := by decide
              refine At.set (d := 127) (u := .bool true) rfl (congrArg Value.bool hbb25) ?_
              refine At.yes rfl rfl rfl rfl ?_
              refine At.move rfl rfl ?_
              refine At.yes rfl rfl rfl rfl ?_
              refine At.eqI rfl rfl rfl ?_
              refine At.pickT rfl rfl rfl ?_
              refine At.move rfl rfl ?_
              have hbb26 : (decide ((lexE (nm 97 j)) = 0)) = true := decide_eq_true hUe
              refine At.set (d := 131) (u := .bool true) rfl (congrArg Value.bool hbb26) ?_
              refine At.yes rfl rfl rfl rfl ?_
              refine At.move rfl rfl ?_
              refine At.yes rfl rfl rfl rfl ?_
              refine At.lenSl rfl (Own.slOk hO8) el24 rfl ?_
              refine At.yes rfl rfl rfl rfl ?_
              refine At.eqI rfl rfl rfl ?_
              refine At.pickT rfl rfl rfl ?_
              refine At.move rfl rfl ?_
              have hbb27 : (decide (((lexT (nm 97 j)).length : Int) = 1)) = true := by rw [hU]; simp
              refine At.set (d := 136) (u := .bool true) rfl (congrArg Value.bool hbb27) ?_
              refine At.yes rfl rfl rfl rfl ?_
              refine At.move rfl rfl ?_
              refine At.yes rfl rfl rfl rfl ?_
              refine At.indexAddr (i := 0) rfl rfl (Own.slOk hO8) (lt_of_some (show (lexT (nm 97 j))[0]? = some U by rw [hU]; rfl)) el24 sz31 rfl ?_
              refine At.yes rfl rfl rfl rfl ?_
              refine At.fieldAddr rfl fo31_1 rfl ?_
              refine At.yes rfl rfl rfl rfl ?_
              refine At.load rfl (Ld.cell ag9 (cell_keep ((((OwnR.rows hO8 (fun u hu => (((fun u _ => tk_ok u)) u hu).size))).row (show (lexT (nm 97 j))[0]? = some U by rw [hU]; rfl)).get ((((fun u _ => tk_ok u)) U (List.mem_of_getElem? (show (lexT (nm 97 j))[0]? = some U by rw [hU]; rfl)))).c1) (Below.refl _ _))) rfl ?_
              refine At.yes rfl rfl rfl rfl ?_
              refine At.move rfl rfl ?_
              refine At.yes rfl rfl rfl rfl ?_
              refine At.eqB' (a := U.t) (b := (nm 97 j)) rfl rfl rfl ?_
              refine At.pickT rfl rfl rfl ?_
              refine At.move rfl rfl ?_
              have hbb28 : (decide (U.t = (nm 97 j))) = true := decide_eq_true hUt
              refine At.set (d := 144) (u := .bool true) rfl (congrArg Value.bool hbb28) ?_
              refine At.yes rfl rfl rfl rfl ?_
              refine At.move rfl rfl ?_
              refine At.yes rfl rfl rfl rfl ?_
              refine At.indexAddr (i := 0) rfl rfl (Own.slOk hO8) (lt_of_some (show (lexT (nm 97 j))[0]? = some U by rw [hU]; rfl)) el24 sz31 rfl ?_
              refine At.yes rfl rfl rfl rfl ?_
              refine At.fieldAddr rfl fo31_0 rfl ?_
              refine At.yes rfl rfl rfl rfl ?_
              refine At.load rfl (Ld.cell ag3 (cell_keep ((((OwnR.rows hO8 (fun u hu => (((fun u _ => tk_ok u)) u hu).size))).row (show (lexT (nm 97 j))[0]? = some U by rw [hU]; rfl)).get ((((fun u _ => tk_ok u)) U (List.mem_of_getElem? (show (lexT (nm 97 j))[0]? = some U by rw [hU]; rfl)))).c0) (Below.refl _ _))) rfl ?_
              refine At.yes rfl rfl rfl rfl ?_
              refine At.eqI rfl rfl rfl ?_
              refine At.yes rfl rfl rfl rfl ?_
              refine At.move rfl rfl ?_
              refine At.yes rfl rfl rfl rfl ?_
              refine At.eqB rfl rfl bo4 rfl ?_
              refine At.pickT rfl rfl rfl ?_
              refine At.assign rfl rfl ?_
              refine At.ops0 ?_
              refine At.thenN ?_
              refine At.retc ?_
              refine At.doneR (ResV.tmp rfl ResV.nil) ?_
              exact ⟨congrArg Ending.returned (congrArg Value.bool (show (decide (decide (U.k = 3) = great)) = true from by rw [hUk, hc9]; decide)), hB⟩
end Go.Proofs.Ytkalnkedpiemaaa
