/-
 The walk of ParseApps. Written by a program of ours.
-/
import Derived.Test.YtkjmjnddanhapaaN14
import Derived.Test.YtkjmjnddanhapaaU12
set_option linter.unusedVariables false
set_option linter.unusedSimpArgs false
namespace Go.Proofs.Ytkjmjnddanhapaa
open Go.RowKit
theorem en12 : entB Try.prog 12 = true := by kernel_rfl
theorem apps_any (a0 m : Int) (w : World) (hm : w.cell? ⟨0, 0, none⟩ = some (.int .i64 m)) :
  Calls Try.prog 7 ([.int .i64 a0] : List Value).toArray w fun e w' => e = .returned (.bool true) ∧ Below w.heap.size w w' := by
 have hB := Below.refl w.heap.size w
 refine At.enter (N := 97) Try.func7 rfl rfl (by simp) [(0, .int .i64 a0)] (by simp) ?_
 refine At.seq ?_
 refine At.region ?_
 refine At.assign rfl rfl ?_
 refine At.ops0 ?_
 refine At.thenN ?_
 refine At.seq ?_
 refine At.region ?_
 refine At.call en12 rfl rfl (shown_any m _ (cell_keep hm hB)) (fun e w1 hR => ?_)
 obtain ⟨rfl, hbl1⟩ := hR
 refine ⟨_, rfl, ?_⟩
 replace hB := Below.andThen hB hbl1
 refine At.assign rfl rfl ?_
 refine At.ops0 ?_
 refine At.thenN ?_
 refine At.seq ?_
 refine At.region ?_
 refine At.move rfl rfl ?_
 refine At.andI rfl rfl rfl ?_
 refine At.remI rfl rfl (by first | omega | (simp; omega)) rfl ?_
 obtain ⟨q1, hq1, lq1⟩ := and_mod a0 (k := 150) (by decide)
 refine At.set (d := 14) (u := .int .i64 (q1 : Int)) rfl (congrArg (Value.int .i64) hq1) ?_
 refine At.addI rfl rfl rfl (by first | omega | (simp; omega)) ?_
 refine At.assign rfl rfl ?_
 refine At.ops0 ?_
 refine At.thenN ?_
 refine At.seq ?_
 refine At.region ?_
 refine At.assign rfl rfl ?_
 refine At.ops0 ?_
 refine At.thenN ?_
 refine At.seq ?_
 refine At.seq ?_
 refine At.region ?_
 refine At.assign rfl rfl ?_
 refine At.ops0 ?_
 refine At.thenN ?_
 refine At.block ?_
 refine At.loop (Nat) (fun i => [(0, .int .i64 (1 + (q1 : Int))), (3, .bool true), (4, .string (bs (appS i))), (5, .int .i64 (i : Int))]) (fun i w2 => Below w.heap.size w w2 ∧ (i ≤ 1 + q1)) (fun i => (1 + q1) - i) (0 : Nat) (Sub.cons rfl (Sub.cons rfl (Sub.cons rfl (Sub.cons rfl Sub.nil)))) ⟨hB, (by omega)⟩ (fun i w2 hI => ?_)
 clear hB
 obtain ⟨hB, hi⟩ := hI
 show At _ _ [(0, .int .i64 (1 + (q1 : Int))), (3, .bool true), (4, .string (bs (appS i))), (5, .int .i64 (i : Int))] _ _
 refine At.seq ?_
 refine At.seq ?_
 refine At.region ?_
 refine At.move rfl rfl ?_
 refine At.move rfl rfl ?_
 refine At.lss rfl rfl rfl ?_
 refine At.ops0 ?_
 refine At.thenN ?_
 refine At.cond (b := decide ((i : Int) < (1 + (q1 : Int)))) rfl (fun hc1 => ?_) (fun hc1 => ?_)
 ·skip
  have hc1' := of_decide_eq_true hc1
  refine At.skip ?_
  refine At.thenN ?_
  refine At.seq ?_
  refine At.block ?_
  refine At.region ?_
  refine At.move rfl rfl ?_
  refine At.catB (a := (appS i)) (b := ([32, 120] : List UInt8)) rfl rfl rfl (by have q := appS_len i (by omega); have q2 := dgs_len20 (n := i) (by omega); (try simp only [List.length_append, List.length_cons, List.length_nil]); omega) ?_
  refine At.move rfl rfl ?_
  refine At.call en16 rfl rfl (digits_any i _ (by omega)) (fun e w3 hR => ?_)
  obtain ⟨rfl, hbl2⟩ := hR
  refine ⟨_, rfl, ?_⟩
  replace hB := Below.andThen hB hbl2
  refine At.catB (a := ((appS i) ++ ([32, 120] : List UInt8))) (b := (dgs i)) rfl rfl rfl (by have q := appS_len i (by omega); have q2 := dgs_len20 (n := i) (by omega); (try simp only [List.length_append, List.length_cons, List.length_nil]); omega) ?_
  refine At.assign rfl rfl ?_
  refine At.ops0 ?_
  refine At.inN ?_
  refine At.thenN ?_
  refine At.region ?_
  refine At.move rfl rfl ?_
  refine At.addI rfl rfl rfl (by first | omega | (simp; omega)) ?_
  refine At.assign rfl rfl ?_
  refine At.ops0 ?_
  refine At.thenN ?_
  exact fun act_ hact_ => ⟨(i + 1), hact_.sub (Sub.cons rfl (Sub.cons rfl (Sub.cons rfl (Sub.cons rfl Sub.nil)))), ⟨hB, (by omega)⟩, by first | omega | (dsimp only; omega)⟩
 ·skip
  have hc1' := of_decide_eq_false hc1
  refine At.exit ?_
  refine At.thenE ?_
  refine At.thenE ?_
  refine At.inE ?_
  refine At.thenN ?_
  refine At.seq ?_
  refine At.set (d := 4) (u := .string (bs (appS (1 + q1)))) rfl (congrArg Value.string (by rw [show i = 1 + q1 by omega])) ?_
  refine At.region ?_
  refine At.move rfl rfl ?_
  refine At.toBytes (l := (appS (1 + q1))) rfl st9 el22 ik5 (by have q := appS_len (1 + q1) (by omega); omega) rfl (fun b1 cap1 w4 hgbb1 hbl3 hby1 => ?_)
  replace hB := Below.andThen hB hbl3
  have hml1 : MLt w4.heap.size [] := (MLt.nil _)
  refine At.call en13 rfl rfl (parse_any (.slice (some ⟨b1, 0, none⟩) (appS (1 + q1)).length cap1) (appS (1 + q1)) m _ (BytesAt.keep hby1 (Below.refl _ _)) (cell_keep hm hB)) (fun e w5 hR => ?_)
  obtain ⟨pr1, rfl, hbl4, hpk1, hsh1, hpl1, hpb1⟩ := hR
  refine ⟨_, rfl, ?_⟩
  replace hby1 := hby1.below hbl4
  replace hB := Below.andThen hB hbl4
  have hXp1 := Xs.of_new (B := 0) (M := []) (K := kPr) hpk1 (fun b hb => .inr (hpb1 b hb)) (fun _ _ => Nat.zero_le _) hml1
  clear hpk1 hpb1 hml1
  obtain ⟨x, hx, hA0⟩ := apps_parse lq1
  have hpr1 : parseR (appS (1 + q1)) = (some ⟨[], [], x⟩, 0, 0) := hx
  refine At.set (d := 29) (u := .tuple #[.agg pr1.cs, .int .i64 0, .int .i64 0]) rfl (by rw [hpr1]) ?_
  replace hA0 : Ap q1 (shT pr1.body) := by rw [show shT pr1.body = x from congrArg SPr.body (show shPr pr1 = (⟨[], [], x⟩ : SPr) by rw [hsh1, hpr1]; rfl)]; exact hA0
  refine At.move rfl rfl ?_
  refine At.extract rfl rfl rfl ?_
  refine At.extract rfl rfl rfl ?_
  refine At.extract rfl rfl rfl ?_
  refine At.alloc ze37 rfl (fun b2 w6 F1 => ?_)
  have gb2 := F1.ge hB
  replace hby1 := hby1.fresh F1
  replace hXp1 := Xs.fresh hXp1 F1
  have hb2 : w6.heap[b2]? = some (.cells #[(.slice none 0 0), (.slice none 0 0), .int .i64 0, .int .i64 0, .string (⟨#[]⟩ : ByteArray), .string (⟨#[]⟩ : ByteArray), .int .i64 0, (.slice none 0 0), (.slice none 0 0), .int .i64 0, .string (⟨#[]⟩ : ByteArray), .int .i64 0, (.slice none 0 0), (.slice none 0 0), .int .i64 0, (.slice none 0 0), .int .i64 0, .int .i64 0, .string (⟨#[]⟩ : ByteArray), .int .i64 0, (.slice none 0 0), (.slice none 0 0), .int .i64 0] 37) := F1.new
  replace hB := F1.below' hB
  refine At.storeAll rfl rfl hb2 (sz37.trans (congrArg some ((Xs.one hXp1)).size.symm)) ((Xs.one hXp1)).size.symm ((Xs.one hXp1)).one (fun w7 S1 => ?_)
  clear hby1
  replace hXp1 := Xs.set hXp1 S1 (by simp)
  replace hb2 : w7.heap[b2]? = some (.cells pr1.cs 37) := S1.new
  replace hB := S1.below' hB gb2
  refine At.assign rfl rfl ?_
  refine At.assign rfl rfl ?_
  refine At.ops0 ?_
  refine At.thenN ?_
  refine At.seq ?_
  refine At.region ?_
  refine At.fieldAddr rfl fo37_2 rfl ?_
  refine At.load rfl (Ld.ownPart ag35 (sz35.trans (congrArg some (((Xs.one hXp1)).bodyOk).size.symm)) hb2 ((Xs.one hXp1)).bodyCs) rfl ?_
  refine At.alloc ze35 rfl (fun b3 w8 F2 => ?_)
  have n_b2_b3 : b2 ≠ b3 := Nat.ne_of_lt (F2.lt hb2)
  have gb3 := F2.ge hB
  replace hb2 := F2.old hb2
  replace hXp1 := Xs.fresh hXp1 F2
  have hb3 : w8.heap[b3]? = some (.cells #[.int .i64 0, .int .i64 0, .string (⟨#[]⟩ : ByteArray), .string (⟨#[]⟩ : ByteArray), .int .i64 0, (.slice none 0 0), (.slice none 0 0), .int .i64 0, .string (⟨#[]⟩ : ByteArray), .int .i64 0, (.slice none 0 0), (.slice none 0 0), .int .i64 0, (.slice none 0 0), .int .i64 0, .int .i64 0, .string (⟨#[]⟩ : ByteArray), .int .i64 0, (.slice none 0 0), (.slice none 0 0), .int .i64 0] 35) := F2.new
  replace hB := F2.below' hB
  refine At.storeAll rfl rfl hb3 (sz35.trans (congrArg some (((Xs.one hXp1)).bodyOk).size.symm)) (((Xs.one hXp1)).bodyOk).size.symm (((Xs.one hXp1)).bodyOk).one (fun w9 S2 => ?_)
  replace hb2 := S2.other hb2 n_b2_b3
  replace hXp1 := Xs.set hXp1 S2 (by simp)
  replace hb3 : w9.heap[b3]? = some (.cells pr1.body.cs 35) := S2.new
  replace hB := S2.below' hB gb3
  refine At.ops0 ?_
  refine At.thenN ?_
  refine At.seq ?_
  refine At.seq ?_
  refine At.region ?_
  refine At.move rfl rfl ?_
  refine At.subI rfl rfl rfl (by first | omega | (simp; omega)) ?_
  refine At.set (d := 36) (u := .int .i64 (q1 : Int)) rfl (congrArg (Value.int .i64) (by omega)) ?_
  refine At.assign rfl rfl ?_
  refine At.ops0 ?_
  refine At.thenN ?_
  refine At.block ?_
  refine At.loop (Nat × Tm) (fun (i, tt) => [(3, .bool true), (8, .int .i64 0), (9, .pointer (some ⟨b3, 0, none⟩)), (10, .int .i64 (i : Int))]) (fun (i, tt) w10 => Below w.heap.size w w10 ∧ w10.heap[b3]? = some (.cells tt.cs 35) ∧ Xs kTm [some b3] w10 [tt] ∧ (i ≤ q1) ∧ (Ap i (shT tt))) (fun (i, tt) => i) (q1, pr1.body) (Sub.cons rfl (Sub.cons rfl (Sub.cons rfl (Sub.cons rfl Sub.nil)))) ⟨hB, hb3, Xs.body (Xs.weaken (M' := [some b3]) hXp1 (SubM.cons (.head _) SubM.nil)), (Nat.le_refl _), (hA0)⟩ (fun gh w10 hI => ?_)
  obtain ⟨i, tt⟩ := gh
  clear hB hb2 hb3 hXp1
  obtain ⟨hB, hb3, hXt, hiq, hA⟩ := hI
  show At _ _ [(3, .bool true), (8, .int .i64 0), (9, .pointer (some ⟨b3, 0, none⟩)), (10, .int .i64 (i : Int))] _ _
  refine At.seq ?_
  refine At.seq ?_
  refine At.region ?_
  refine At.move rfl rfl ?_
  refine At.gtr rfl rfl rfl ?_
  refine At.ops0 ?_
  refine At.thenN ?_
  refine At.cond (b := decide (0 < (i : Int))) rfl (fun hc2 => ?_) (fun hc2 => ?_)
  ·skip
   have hc2' := of_decide_eq_true hc2
   refine At.skip ?_
   refine At.thenN ?_
   refine At.seq ?_
   refine At.block ?_
   refine At.seq ?_
   refine At.seq ?_
   obtain ⟨f1, f2, f3, f4, f5⟩ := ap_step hA (by omega)
   obtain ⟨u2, hu2⟩ := some_of_lt (l := tt.kids) (i := 1) (by omega)
   obtain ⟨f6, f7⟩ := f4 _ hu2
   obtain ⟨u1, hu1⟩ := some_of_lt (l := tt.kids) (i := 0) (by omega)
   have hbb1 : ((!decide (tt.k = 6))) = false := by simp [f1, f2, f3, f6, f7]
   have hbb2 : ((!decide ((tt.kids.length : Int) = 2))) = false := by simp [f1, f2, f3, f6, f7]
   have hbb3 : ((!decide (u2.k = 1))) = false := by simp [f1, f2, f3, f6, f7]
   have hbb4 : ((!decide (u2.nm = (bs (([120] : List UInt8) ++ (dgs i)))))) = false := by simp [f1, f2, f3, f6, f7]
   refine At.drawG (n := 37) mixed (by kernel_rfl) rfl (PanicOk.then (PanicOk.then (PanicOk.block (PanicOk.then (PanicOk.then (PanicOk.block (PanicOk.then PanicOk.body))))))) ?_
   have hB := Below.drewB hB
   have hb3 : _ := (show w10.drew.heap[b3]? = _ from hb3)
   have hXt := Xs.drew hXt
   refine At.wpcL #[false, false, false, false, false, false, false, false, false, false, false, false, false, false, false, false, false, false, false, false, false, false, false, false, false, false, false, false, false, false, false, false, false, false, false, false, false] (by kernel_rfl) ?_
   refine At.wpcS (i := 0) (d := 41) (.int .i64 0) (by kernel_rfl) rfl rfl rfl (fun Lx => ?_) ?_
   ·skip
    refine At.move rfl rfl ?_
    refine At.ops0 ?_
    exact fun a ha => ⟨ha, rfl⟩
   refine At.wpcL #[true, false, false, false, false, false, false, false, false, false, false, false, false, false, false, false, false, false, false, false, false, false, false, false, false, false, false, false, false, false, false, false, false, false, false, false, false] (by kernel_rfl) ?_
   refine At.wpcS (i := 1) (d := 42) (.bool false) (by kernel_rfl) rfl rfl rfl (fun Lx => ?_) ?_
   ·skip
    refine At.neI rfl rfl rfl ?_
    refine At.set (d := 42) (u := .bool false) rfl (congrArg Value.bool (by simp)) ?_
    refine At.ops0 ?_
    exact fun a ha => ⟨Is.dup ha, rfl⟩
   refine At.wpcL #[true, true, false, false, false, false, false, false, false, false, false, false, false, false, false, false, false, false, false, false, false, false, false, false, false, false, false, false, false, false, false, false, false, false, false, false, false] (by kernel_rfl) ?_
   refine At.wpcS (i := 2) (d := 43) (.bool false) (by kernel_rfl) rfl rfl rfl (fun Lx => ?_) ?_
   ·skip
    refine At.move rfl rfl ?_
    refine At.ops0 ?_
    exact fun a ha => ⟨ha, rfl⟩
   refine At.wpcL #[true, true, true, false, false, false, false, false, false, false, false, false, false, false, false, false, false, false, false, false, false, false, false, false, false, false, false, false, false, false, false, false, false, false, false, false, false] (by kernel_rfl) ?_
   refine At.wpcS (i := 3) (d := 44) (.pointer (some ⟨b3, 0 + 0, none⟩)) (by kernel_rfl) rfl rfl rfl (fun Lx => ?_) ?_
   ·skip
    refine At.yes rfl rfl rfl rfl ?_
    refine At.fieldAddr rfl fo35_0 rfl ?_
    refine At.ops0 ?_
    exact fun a ha => ⟨ha, rfl⟩
   refine At.wpcL #[true, true, true, true, false, false, false, false, false, false, false, false, false, false, false, false, false, false, false, false, false, false, false, false, false, false, false, false, false, false, false, false, false, false, false, false, false] (by kernel_rfl) ?_
   refine At.wpcS (i := 4) (d := 45) (.int .i64 tt.k) (by kernel_rfl) rfl rfl rfl (fun Lx => ?_) ?_
   ·skip
    refine At.yes rfl rfl rfl rfl ?_
    refine At.load rfl (Ld.ownCell ag3 hb3 ((Xs.one hXt)).c0) rfl ?_
    refine At.ops0 ?_
    exact fun a ha => ⟨ha, rfl⟩
   refine At.wpcL #[true, true, true, true, true, false, false, false, false, false, false, false, false, false, false, false, false, false, false, false, false, false, false, false, false, false, false, false, false, false, false, false, false, false, false, false, false] (by kernel_rfl) ?_
   refine At.wpcS (i := 5) (d := 46) (.bool (!decide (tt.k = 6))) (by kernel_rfl) rfl rfl rfl (fun Lx => ?_) ?_
   ·skip
    refine At.yes rfl rfl rfl rfl ?_
    refine At.neI rfl rfl rfl ?_
    refine At.ops0 ?_
    exact fun a ha => ⟨ha, rfl⟩
   refine At.set (d := 46) (u := .bool false) rfl (congrArg Value.bool hbb1) ?_
   refine At.wpcL #[true, true, true, true, true, true, false, false, false, false, false, false, false, false, false, false, false, false, false, false, false, false, false, false, false, false, false, false, false, false, false, false, false, false, false, false, false] (by kernel_rfl) ?_
   refine At.wpcS (i := 6) (d := 47) (.bool false) (by kernel_rfl) rfl rfl rfl (fun Lx => ?_) ?_
   ·skip
    refine At.pickF rfl rfl rfl ?_
    refine At.ops0 ?_
    exact fun a ha => ⟨ha, rfl⟩
   refine At.wpcL #[true, true, true, true, true, true, true, false, false, false, false, false, false, false, false, false, false, false, false, false, false, false, false, false, false, false, false, false, false, false, false, false, false, false, false, false, false] (by kernel_rfl) ?_
   refine At.wpcS (i := 7) (d := 48) (.bool false) (by kernel_rfl) rfl rfl rfl (fun Lx => ?_) ?_
   ·skip
    refine At.move rfl rfl ?_
    refine At.ops0 ?_
    exact fun a ha => ⟨ha, rfl⟩
   refine At.wpcL #[true, true, true, true, true, true, true, true, false, false, false, false, false, false, false, false, false, false, false, false, false, false, false, false, false, false, false, false, false, false, false, false, false, false, false, false, false] (by kernel_rfl) ?_
   refine At.wpcS (i := 8) (d := 49) (.pointer (some ⟨b3, 0 + 5, none⟩)) (by kernel_rfl) rfl rfl rfl (fun Lx => ?_) ?_
   ·skip
    refine At.yes rfl rfl rfl rfl ?_
    refine At.fieldAddr rfl fo35_5 rfl ?_
    refine At.ops0 ?_
    exact fun a ha => ⟨ha, rfl⟩
   refine At.wpcL #[true, true, true, true, true, true, true, true, true, false, false, false, false, false, false, false, false, false, false, false, false, false, false, false, false, false, false, false, false, false, false, false, false, false, false, false, false] (by kernel_rfl) ?_
   refine At.wpcS (i := 9) (d := 50) (tt.kv) (by kernel_rfl) rfl rfl rfl (fun Lx => ?_) ?_
   ·skip
    refine At.yes rfl rfl rfl rfl ?_
    refine At.load rfl (Ld.ownCell ag26 hb3 ((Xs.one hXt)).c5) rfl ?_
    refine At.ops0 ?_
    exact fun a ha => ⟨ha, rfl⟩
   refine At.wpcL #[true, true, true, true, true, true, true, true, true, true, false, false, false, false, false, false, false, false, false, false, false, false, false, false, false, false, false, false, false, false, false, false, false, false, false, false, false] (by kernel_rfl) ?_
   refine At.wpcS (i := 10) (d := 51) (.int .i64 (tt.kids.length : Int)) (by kernel_rfl) rfl rfl rfl (fun Lx => ?_) ?_
   ·skip
    refine At.yes rfl rfl rfl rfl ?_
    refine At.lenSl rfl (((Xs.one hXt)).kidsAt).okL el26 rfl ?_
    refine At.ops0 ?_
    exact fun a ha => ⟨ha, rfl⟩
   refine At.wpcL #[true, true, true, true, true, true, true, true, true, true, true, false, false, false, false, false, false, false, false, false, false, false, false, false, false, false, false, false, false, false, false, false, false, false, false, false, false] (by kernel_rfl) ?_
   refine At.wpcS (i := 11) (d := 52) (.bool (!decide ((tt.kids.length : Int) = 2))) (by kernel_rfl) rfl rfl rfl (fun Lx => ?_) ?_
   ·skip
    refine At.yes rfl rfl rfl rfl ?_
    refine At.neI rfl rfl rfl ?_
    refine At.ops0 ?_
    exact fun a ha => ⟨ha, rfl⟩
   refine At.set (d := 52) (u := .bool false) rfl (congrArg Value.bool hbb2) ?_
   refine At.wpcL #[true, true, true, true, true, true, true, true, true, true, true, true, false, false, false, false, false, false, false, false, false, false, false, false, false, false, false, false, false, false, false, false, false, false, false, false, false] (by kernel_rfl) ?_
   refine At.wpcS (i := 12) (d := 53) (.bool false) (by kernel_rfl) rfl rfl rfl (fun Lx => ?_) ?_
   ·skip
    refine At.pickF rfl rfl rfl ?_
    refine At.ops0 ?_
    exact fun a ha => ⟨ha, rfl⟩
   refine At.wpcL #[true, true, true, true, true, true, true, true, true, true, true, true, true, false, false, false, false, false, false, false, false, false, false, false, false, false, false, false, false, false, false, false, false, false, false, false, false] (by kernel_rfl) ?_
   refine At.wpcS (i := 13) (d := 54) (.bool false) (by kernel_rfl) rfl rfl rfl (fun Lx => ?_) ?_
   ·skip
    refine At.move rfl rfl ?_
    refine At.ops0 ?_
    exact fun a ha => ⟨ha, rfl⟩
   refine At.wpcL #[true, true, true, true, true, true, true, true, true, true, true, true, true, true, false, false, false, false, false, false, false, false, false, false, false, false, false, false, false, false, false, false, false, false, false, false, false] (by kernel_rfl) ?_
   refine At.wpcS (i := 14) (d := 55) (.pointer (some ⟨b3, 0 + 5, none⟩)) (by kernel_rfl) rfl rfl rfl (fun Lx => ?_) ?_
   ·skip
    refine At.yes rfl rfl rfl rfl ?_
    refine At.fieldAddr rfl fo35_5 rfl ?_
    refine At.ops0 ?_
    exact fun a ha => ⟨ha, rfl⟩
   refine At.wpcL #[true, true, true, true, true, true, true, true, true, true, true, true, true, true, true, false, false, false, false, false, false, false, false, false, false, false, false, false, false, false, false, false, false, false, false, false, false] (by kernel_rfl) ?_
   refine At.wpcS (i := 15) (d := 56) (tt.kv) (by kernel_rfl) rfl rfl rfl (fun Lx => ?_) ?_
   ·skip
    refine At.yes rfl rfl rfl rfl ?_
    refine At.load rfl (Ld.ownCell ag26 hb3 ((Xs.one hXt)).c5) rfl ?_
    refine At.ops0 ?_
    exact fun a ha => ⟨ha, rfl⟩
   refine At.wpcL #[true, true, true, true, true, true, true, true, true, true, true, true, true, true, true, true, false, false, false, false, false, false, false, false, false, false, false, false, false, false, false, false, false, false, false, false, false] (by kernel_rfl) ?_
   refine At.wpcS (i := 16) (d := 57) (.pointer (some ⟨vBlock tt.kv, vOff tt.kv + 1 * 21, none⟩)) (by kernel_rfl) rfl rfl rfl (fun Lx => ?_) ?_
   ·skip
    refine At.yes rfl rfl rfl rfl ?_
    refine At.indexAddr (i := 1) rfl rfl (((Xs.one hXt)).kidsAt).okL (lt_of_some hu2) el26 sz35 rfl ?_
    refine At.ops0 ?_
    exact fun a ha => ⟨ha, rfl⟩
   refine At.wpcL #[true, true, true, true, true, true, true, true, true, true, true, true, true, true, true, true, true, false, false, false, false, false, false, false, false, false, false, false, false, false, false, false, false, false, false, false, false] (by kernel_rfl) ?_
   refine At.wpcS (i := 17) (d := 58) (.pointer (some ⟨vBlock tt.kv, vOff tt.kv + 1 * 21 + 0, none⟩)) (by kernel_rfl) rfl rfl rfl (fun Lx => ?_) ?_
   ·skip
    refine At.yes rfl rfl rfl rfl ?_
    refine At.fieldAddr rfl fo35_0 rfl ?_
    refine At.ops0 ?_
    exact fun a ha => ⟨ha, rfl⟩
   refine At.wpcL #[true, true, true, true, true, true, true, true, true, true, true, true, true, true, true, true, true, true, false, false, false, false, false, false, false, false, false, false, false, false, false, false, false, false, false, false, false] (by kernel_rfl) ?_
   refine At.wpcS (i := 18) (d := 59) (.int .i64 u2.k) (by kernel_rfl) rfl rfl rfl (fun Lx => ?_) ?_
   ·skip
    refine At.yes rfl rfl rfl rfl ?_
    refine At.load rfl (Ld.cell ag3 (cell_keep (((((Xs.one hXt)).kidsAt).row hu2).get ((((Xs.one hXt)).kid hu2)).c0) (Below.refl _ _))) rfl ?_
    refine At.ops0 ?_
    exact fun a ha => ⟨ha, rfl⟩
   refine At.wpcL #[true, true, true, true, true, true, true, true, true, true, true, true, true, true, true, true, true, true, true, false, false, false, false, false, false, false, false, false, false, false, false, false, false, false, false, false, false] (by kernel_rfl) ?_
   refine At.wpcS (i := 19) (d := 60) (.bool (!decide (u2.k = 1))) (by kernel_rfl) rfl rfl rfl (fun Lx => ?_) ?_
   ·skip
    refine At.yes rfl rfl rfl rfl ?_
    refine At.neI rfl rfl rfl ?_
    refine At.ops0 ?_
    exact fun a ha => ⟨ha, rfl⟩
   refine At.set (d := 60) (u := .bool false) rfl (congrArg Value.bool hbb3) ?_
   refine At.wpcL #[true, true, true, true, true, true, true, true, true, true, true, true, true, true, true, true, true, true, true, true, false, false, false, false, false, false, false, false, false, false, false, false, false, false, false, false, false] (by kernel_rfl) ?_
   refine At.wpcS (i := 20) (d := 61) (.bool false) (by kernel_rfl) rfl rfl rfl (fun Lx => ?_) ?_
   ·skip
    refine At.pickF rfl rfl rfl ?_
    refine At.ops0 ?_
    exact fun a ha => ⟨ha, rfl⟩
   refine At.wpcL #[true, true, true, true, true, true, true, true, true, true, true, true, true, true, true, true, true, true, true, true, true, false, false, false, false, false, false, false, false, false, false, false, false, false, false, false, false] (by kernel_rfl) ?_
   refine At.wpcS (i := 21) (d := 62) (.bool false) (by kernel_rfl) rfl rfl rfl (fun Lx => ?_) ?_
   ·skip
    refine At.move rfl rfl ?_
    refine At.ops0 ?_
    exact fun a ha => ⟨ha, rfl⟩
   refine At.wpcL #[true, true, true, true, true, true, true, true, true, true, true, true, true, true, true, true, true, true, true, true, true, true, false, false, false, false, false, false, false, false, false, false, false, false, false, false, false] (by kernel_rfl) ?_
   refine At.wpcS (i := 22) (d := 63) (.pointer (some ⟨b3, 0 + 5, none⟩)) (by kernel_rfl) rfl rfl rfl (fun Lx => ?_) ?_
   ·skip
    refine At.yes rfl rfl rfl rfl ?_
    refine At.fieldAddr rfl fo35_5 rfl ?_
    refine At.ops0 ?_
    exact fun a ha => ⟨ha, rfl⟩
   refine At.wpcL #[true, true, true, true, true, true, true, true, true, true, true, true, true, true, true, true, true, true, true, true, true, true, true, false, false, false, false, false, false, false, false, false, false, false, false, false, false] (by kernel_rfl) ?_
   refine At.wpcS (i := 23) (d := 64) (tt.kv) (by kernel_rfl) rfl rfl rfl (fun Lx => ?_) ?_
   ·skip
    refine At.yes rfl rfl rfl rfl ?_
    refine At.load rfl (Ld.ownCell ag26 hb3 ((Xs.one hXt)).c5) rfl ?_
    refine At.ops0 ?_
    exact fun a ha => ⟨ha, rfl⟩
   refine At.wpcL #[true, true, true, true, true, true, true, true, true, true, true, true, true, true, true, true, true, true, true, true, true, true, true, true, false, false, false, false, false, false, false, false, false, false, false, false, false] (by kernel_rfl) ?_
   refine At.wpcS (i := 24) (d := 65) (.pointer (some ⟨vBlock tt.kv, vOff tt.kv + 1 * 21, none⟩)) (by kernel_rfl) rfl rfl rfl (fun Lx => ?_) ?_
   ·skip
    refine At.yes rfl rfl rfl rfl ?_
    refine At.indexAddr (i := 1) rfl rfl (((Xs.one hXt)).kidsAt).okL (lt_of_some hu2) el26 sz35 rfl ?_
    refine At.ops0 ?_
    exact fun a ha => ⟨ha, rfl⟩
   refine At.wpcL #[true, true, true, true, true, true, true, true, true, true, true, true, true, true, true, true, true, true, true, true, true, true, true, true, true, false, false, false, false, false, false, false, false, false, false, false, false] (by kernel_rfl) ?_
   refine At.wpcS (i := 25) (d := 66) (.pointer (some ⟨vBlock tt.kv, vOff tt.kv + 1 * 21 + 2, none⟩)) (by kernel_rfl) rfl rfl rfl (fun Lx => ?_) ?_
   ·skip
    refine At.yes rfl rfl rfl rfl ?_
    refine At.fieldAddr rfl fo35_2 rfl ?_
    refine At.ops0 ?_
    exact fun a ha => ⟨ha, rfl⟩
   refine At.wpcL #[true, true, true, true, true, true, true, true, true, true, true, true, true, true, true, true, true, true, true, true, true, true, true, true, true, true, false, false, false, false, false, false, false, false, false, false, false] (by kernel_rfl) ?_
   refine At.wpcS (i := 26) (d := 67) (.string u2.nm) (by kernel_rfl) rfl rfl rfl (fun Lx => ?_) ?_
   ·skip
    refine At.yes rfl rfl rfl rfl ?_
    refine At.load rfl (Ld.cell ag9 (cell_keep (((((Xs.one hXt)).kidsAt).row hu2).get ((((Xs.one hXt)).kid hu2)).c2) (Below.refl _ _))) rfl ?_
    refine At.ops0 ?_
    exact fun a ha => ⟨ha, rfl⟩
   refine At.wpcL #[true, true, true, true, true, true, true, true, true, true, true, true, true, true, true, true, true, true, true, true, true, true, true, true, true, true, true, false, false, false, false, false, false, false, false, false, false] (by kernel_rfl) ?_
   refine At.wpcS (i := 27) (d := 68) (.int .i64 (i : Int)) (by kernel_rfl) rfl rfl rfl (fun Lx => ?_) ?_
   ·skip
    refine At.yes rfl rfl rfl rfl ?_
    refine At.move rfl rfl ?_
    refine At.ops0 ?_
    exact fun a ha => ⟨ha, rfl⟩
   refine At.wpcL #[true, true, true, true, true, true, true, true, true, true, true, true, true, true, true, true, true, true, true, true, true, true, true, true, true, true, true, true, false, false, false, false, false, false, false, false, false] (by kernel_rfl) ?_
   refine At.wpcF [28] (by kernel_rfl) (by kernel_rfl) (.cons [22, 23, 24, 25, 26] [[28, 21, 13, 7, 2, 1, 0], [28, 21, 13, 7, 2, 1], [28, 21, 13, 7, 2], [28, 21, 13, 7, 6, 5, 4, 3], [28, 21, 13, 7, 6, 5, 4], [28, 21, 13, 7, 6, 5], [28, 21, 13, 7, 6], [28, 21, 13, 7], [28, 21, 13, 12, 11, 10, 9, 8], [28, 21, 13, 12, 11, 10, 9], [28, 21, 13, 12, 11, 10], [28, 21, 13, 12, 11], [28, 21, 13, 12], [28, 21, 13], [28, 21, 20, 19, 18, 17, 16, 15, 14], [28, 21, 20, 19, 18, 17, 16, 15], [28, 21, 20, 19, 18, 17, 16], [28, 21, 20, 19, 18, 17], [28, 21, 20, 19, 18], [28, 21, 20, 19], [28, 21, 20], [28, 21], [28, 27]] rfl (by kernel_rfl) ?_ .nil)
   refine At.yes rfl rfl rfl rfl ?_
   refine At.call en16 rfl rfl (digits_any i _ (by omega)) (fun e w11 hR => ?_)
   obtain ⟨rfl, hbl5⟩ := hR
   refine ⟨_, rfl, ?_⟩
   replace hb3 := Below.old hbl5 hb3
   replace hXt := Xs.below hXt hbl5
   replace hB := Below.andThen hB hbl5
   refine At.ops0 ?_
   refine At.wpcN (.cons rfl rfl rfl rfl (fun Lx => ?_) (.cons rfl rfl rfl rfl (fun Lx => ?_) (.cons rfl rfl rfl rfl (fun Lx => ?_) (.cons rfl rfl rfl rfl (fun Lx => ?_) (.cons rfl rfl rfl rfl (fun Lx => ?_) .nil))))) ?_
   ·skip
    refine At.yes rfl rfl rfl rfl ?_
    refine At.fieldAddr rfl fo35_5 rfl ?_
    refine At.ops0 ?_
    exact fun a ha => ⟨ha, rfl⟩
   ·skip
    refine At.yes rfl rfl rfl rfl ?_
    refine At.load rfl (Ld.ownCell ag26 hb3 ((Xs.one hXt)).c5) rfl ?_
    refine At.ops0 ?_
    exact fun a ha => ⟨ha, rfl⟩
   ·skip
    refine At.yes rfl rfl rfl rfl ?_
    refine At.indexAddr (i := 1) rfl rfl (((Xs.one hXt)).kidsAt).okL (lt_of_some hu2) el26 sz35 rfl ?_
    refine At.ops0 ?_
    exact fun a ha => ⟨ha, rfl⟩
   ·skip
    refine At.yes rfl rfl rfl rfl ?_
    refine At.fieldAddr rfl fo35_2 rfl ?_
    refine At.ops0 ?_
    exact fun a ha => ⟨ha, rfl⟩
   ·skip
    refine At.yes rfl rfl rfl rfl ?_
    refine At.load rfl (Ld.cell ag9 (cell_keep (((((Xs.one hXt)).kidsAt).row hu2).get ((((Xs.one hXt)).kid hu2)).c2) (Below.refl _ _))) rfl ?_
    refine At.ops0 ?_
    exact fun a ha => ⟨ha, rfl⟩
   refine At.wpcL #[true, true, true, true, true, true, true, true, true, true, true, true, true, true, true, true, true, true, true, true, true, true, true, true, true, true, true, true, true, false, false, false, false, false, false, false, false] (by kernel_rfl) ?_
   refine At.wpcS (i := 29) (d := 70) (.string (bs (([120] : List UInt8) ++ (dgs i)))) (by kernel_rfl) rfl rfl rfl (fun Lx => ?_) ?_
   ·skip
    refine At.yes rfl rfl rfl rfl ?_
    refine At.catB (a := ([120] : List UInt8)) (b := (dgs i)) rfl rfl rfl (by have q := appS_len i (by omega); have q2 := dgs_len20 (n := i) (by omega); (try simp only [List.length_append, List.length_cons, List.length_nil]); omega) ?_
    refine At.ops0 ?_
    exact fun a ha => ⟨ha, rfl⟩
   refine At.wpcL #[true, true, true, true, true, true, true, true, true, true, true, true, true, true, true, true, true, true, true, true, true, true, true, true, true, true, true, true, true, true, false, false, false, false, false, false, false] (by kernel_rfl) ?_
   refine At.wpcS (i := 30) (d := 71) (.bool (!decide (u2.nm = (bs (([120] : List UInt8) ++ (dgs i)))))) (by kernel_rfl) rfl rfl rfl (fun Lx => ?_) ?_
   ·skip
    refine At.yes rfl rfl rfl rfl ?_
    refine At.neS rfl rfl rfl ?_
    refine At.ops0 ?_
    exact fun a ha => ⟨ha, rfl⟩
   refine At.set (d := 71) (u := .bool false) rfl (congrArg Value.bool hbb4) ?_
   refine At.wpcL #[true, true, true, true, true, true, true, true, true, true, true, true, true, true, true, true, true, true, true, true, true, true, true, true, true, true, true, true, true, true, true, false, false, false, false, false, false] (by kernel_rfl) ?_
   refine At.wpcS (i := 31) (d := 72) (.bool false) (by kernel_rfl) rfl rfl rfl (fun Lx => ?_) ?_
   ·skip
    refine At.pickF rfl rfl rfl ?_
    refine At.ops0 ?_
    exact fun a ha => ⟨ha, rfl⟩
   refine At.wpcL #[true, true, true, true, true, true, true, true, true, true, true, true, true, true, true, true, true, true, true, true, true, true, true, true, true, true, true, true, true, true, true, true, false, false, false, false, false] (by kernel_rfl) ?_
   refine At.wpcS (i := 32) (d := 73) (.bool false) (by kernel_rfl) rfl rfl rfl (fun Lx => ?_) ?_
   ·skip
    refine At.move rfl rfl ?_
    refine At.ops0 ?_
    exact fun a ha => ⟨ha, rfl⟩
   refine At.wpcL #[true, true, true, true, true, true, true, true, true, true, true, true, true, true, true, true, true, true, true, true, true, true, true, true, true, true, true, true, true, true, true, true, true, false, false, false, false] (by kernel_rfl) ?_
   refine At.wpcS (i := 33) (d := 74) (.pointer (some ⟨b3, 0 + 1, none⟩)) (by kernel_rfl) rfl rfl rfl (fun Lx => ?_) ?_
   ·skip
    refine At.yes rfl rfl rfl rfl ?_
    refine At.fieldAddr rfl fo35_1 rfl ?_
    refine At.ops0 ?_
    exact fun a ha => ⟨ha, rfl⟩
   refine At.wpcL #[true, true, true, true, true, true, true, true, true, true, true, true, true, true, true, true, true, true, true, true, true, true, true, true, true, true, true, true, true, true, true, true, true, true, false, false, false] (by kernel_rfl) ?_
   refine At.wpcS (i := 34) (d := 75) (.int .i64 tt.at_) (by kernel_rfl) rfl rfl rfl (fun Lx => ?_) ?_
   ·skip
    refine At.yes rfl rfl rfl rfl ?_
    refine At.load rfl (Ld.ownCell ag3 hb3 ((Xs.one hXt)).c1) rfl ?_
    refine At.ops0 ?_
    exact fun a ha => ⟨ha, rfl⟩
   refine At.wpcL #[true, true, true, true, true, true, true, true, true, true, true, true, true, true, true, true, true, true, true, true, true, true, true, true, true, true, true, true, true, true, true, true, true, true, true, false, false] (by kernel_rfl) ?_
   refine At.wpcS (i := 35) (d := 76) (.bool (!decide (tt.at_ = 1))) (by kernel_rfl) rfl rfl rfl (fun Lx => ?_) ?_
   ·skip
    refine At.yes rfl rfl rfl rfl ?_
    refine At.neI rfl rfl rfl ?_
    refine At.ops0 ?_
    exact fun a ha => ⟨ha, rfl⟩
   refine At.wpcL #[true, true, true, true, true, true, true, true, true, true, true, true, true, true, true, true, true, true, true, true, true, true, true, true, true, true, true, true, true, true, true, true, true, true, true, true, false] (by kernel_rfl) ?_
   refine At.wpcS (i := 36) (d := 77) (.bool (!decide (tt.at_ = 1))) (by kernel_rfl) rfl rfl rfl (fun Lx => ?_) ?_
   ·skip
    refine At.pickF rfl rfl rfl ?_
    refine At.ops0 ?_
    exact fun a ha => ⟨ha, rfl⟩
   refine At.wpcZ ?_
   refine At.thenN ?_
   have hb : ((!decide (tt.at_ = 1))) = false := by simp [f1, f2, f3, f6, f7]
   refine At.set (d := 77) (u := .bool false) rfl (congrArg Value.bool hb) ?_
   refine At.condF rfl ?_
   refine At.skip ?_
   refine At.thenN ?_
   refine At.region ?_
   refine At.fieldAddr rfl fo35_5 rfl ?_
   refine At.load rfl (Ld.ownCell ag26 hb3 ((Xs.one hXt)).c5) rfl ?_
   refine At.indexAddr (i := 0) rfl rfl (((Xs.one hXt)).kidsAt).okL (lt_of_some hu1) el26 sz35 rfl ?_
   refine At.load rfl (Ld.row ag35 (sz35.trans (congrArg some ((((Xs.one hXt)).kid hu1)).size.symm)) (((((Xs.one hXt)).kidsAt).row hu1).keep (Below.refl _ _))) rfl ?_
   refine At.storeAll rfl rfl hb3 (sz35.trans (congrArg some ((((Xs.one hXt)).kid hu1)).size.symm)) (((Xs.one hXt)).size.trans ((((Xs.one hXt)).kid hu1)).size.symm) ((((Xs.one hXt)).kid hu1)).one (fun w12 S3 => ?_)
   replace hXt := Xs.set hXt S3 (by simp)
   replace hb3 : w12.heap[b3]? = some (.cells u1.cs 35) := S3.new
   replace hB := S3.below' hB gb3
   refine At.ops0 ?_
   refine At.inN ?_
   refine At.thenN ?_
   refine At.region ?_
   refine At.move rfl rfl ?_
   refine At.subI rfl rfl rfl (by first | omega | (simp; omega)) ?_
   refine At.set (d := 40) (u := .int .i64 ((i - 1 : Nat) : Int)) rfl (congrArg (Value.int .i64) (by omega)) ?_
   refine At.assign rfl rfl ?_
   refine At.ops0 ?_
   refine At.thenN ?_
   exact fun act_ hact_ => ⟨((i - 1), u1), hact_.sub (Sub.cons rfl (Sub.cons rfl (Sub.cons rfl (Sub.cons rfl Sub.nil)))), ⟨hB, hb3, Xs.kid hXt hu1, (by omega), (f5 _ hu1)⟩, by first | omega | (dsimp only; omega)⟩
  ·skip
   have hc2' := of_decide_eq_false hc2
   refine At.exit ?_
   refine At.thenE ?_
   refine At.thenE ?_
   refine At.inE ?_
   refine At.thenN ?_
   refine At.seq ?_
   have hi0 : i = 0 := by omega
   rw [hi0] at hA
   obtain ⟨z1, z2⟩ := ap_zero hA
   refine At.region ?_
   refine At.move rfl rfl ?_
   refine At.move rfl rfl ?_
   refine At.yes rfl rfl rfl rfl ?_
   refine At.move rfl rfl ?_
   refine At.yes rfl rfl rfl rfl ?_
   refine At.eqI rfl rfl rfl ?_
   refine At.set (d := 85) (u := .bool true) rfl (congrArg Value.bool (by simp)) ?_
   refine At.pickT rfl rfl rfl ?_
   refine At.move rfl rfl ?_
   refine At.yes rfl rfl rfl rfl ?_
   refine At.fieldAddr rfl fo35_0 rfl ?_
   refine At.yes rfl rfl rfl rfl ?_
   refine At.load rfl (Ld.ownCell ag3 hb3 ((Xs.one hXt)).c0) rfl ?_
   refine At.yes rfl rfl rfl rfl ?_
   refine At.eqI rfl rfl rfl ?_
   refine At.pickT rfl rfl rfl ?_
   refine At.move rfl rfl ?_
   have hbb5 : (decide (tt.k = 1)) = true := by simp [z1, z2]
   refine At.set (d := 92) (u := .bool true) rfl (congrArg Value.bool hbb5) ?_
   refine At.yes rfl rfl rfl rfl ?_
   refine At.fieldAddr rfl fo35_2 rfl ?_
   refine At.yes rfl rfl rfl rfl ?_
   refine At.load rfl (Ld.ownCell ag9 hb3 ((Xs.one hXt)).c2) rfl ?_
   refine At.yes rfl rfl rfl rfl ?_
   refine At.eqS rfl rfl rfl ?_
   refine At.pickT rfl rfl rfl ?_
   refine At.assign rfl rfl ?_
   refine At.ops0 ?_
   refine At.thenN ?_
   refine At.retc ?_
   refine At.doneR (ResV.tmp rfl ResV.nil) ?_
   exact ⟨congrArg Ending.returned (congrArg Value.bool (by rw [z2]; rfl)), hB⟩
end Go.Proofs.Ytkjmjnddanhapaa
