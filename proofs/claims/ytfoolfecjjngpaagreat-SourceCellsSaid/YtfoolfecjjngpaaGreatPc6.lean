/-
  Part 6 of 6 of a proof: sourceCells_holds. No condition beyond those that stand in each statement.
-/
import Derived.Test.YtfoolfecjjngpaaGreatPc5
import Derived.Test.YtfoolfecjjngpaaGreatRows
set_option linter.unusedVariables false
set_option linter.unusedSimpArgs false
namespace Go.Proofs.YtfoolfecjjngpaaGreat
open Go.RowKit
theorem en14 : entB Tryz.prog 14 = true := by kernel_rfl
theorem en21 : entB Tryz.prog 21 = true := by kernel_rfl
theorem en28 : entB Tryz.prog 28 = true := by kernel_rfl
theorem read_any {M : List (Option Nat)} {nc : Nat} {m : Int} (l : List UInt8) (w : World) (hMl : MLt w.heap.size M) (hll : l.length ≤ 1000) (hm : w.cell? ⟨0, 0, none⟩ = some (.int .i64 m)) (hps : (parseR l).1.isSome = true) :
  Calls Tryz.prog 21 ([.string (bs l)] : List Value).toArray w fun r w' => ∃ v1 v2 t, r = .returned (.agg (mx [v1, v2] t.cs [])) ∧ v1.oneCell' = true ∧ v2.oneCell' = true ∧ TT M w' t (shT' l) ∧ Below w.heap.size w w' := by
 have hG := Gr.refl [] w
 refine At.enter (N := 14) Tryz.func21 rfl rfl (by simp) [(0, .string (bs l))] (by simp) ?_
 refine .seq (.region ?_)
 refine At.alloc ze38 rfl (fun b1 w1 F1 => ?_)
 have gb1 := F1.gq hG.size
 have hb1 : w1.heap[b1]? = some (.cells #[zN, zN, zI, zI, zS, zS, zI, zN, zN, zI, zS, zI, zN, zN, zI, zN, zI, zI, zS, zI, zN, zN, zI] 38) := F1.new
 replace hG := hG.below F1.bel
 refine .ops0 (.thenN (.seq (.region (.move rfl rfl ?_))))
 refine At.toBytes (l := l) rfl st9 el74 ik5 (by omega) rfl (fun b2 cap1 w2 hgbb1 hbl1 hby1 => ?_)
 replace hb1 := Below.old hbl1 hb1
 replace hG := hG.below hbl1
 have hml := (MLt.blk hb1 (fun q hq => Nat.lt_of_lt_of_le (hMl q hq) hG.size))
 refine At.call en28 rfl rfl (parse_any (.slice (some ⟨b2, 0, none⟩) l.length cap1) l m _ hby1 (cell_keep hm hG.base) (parseR_good hps)) (fun e w3 hR => ?_)
 obtain ⟨p, rfl, hbl2, hp, hsh, _, hpb⟩ := hR; refine ⟨_, rfl, ?_⟩
 replace hb1 := Below.old hbl2 hb1
 replace hG := hG.below hbl2
 have hT : TT (some b1 :: M) w3 p.body (shT' l) := ⟨fun u hu => by cases List.mem_singleton.1 hu; exact ⟨hp.bodyOk, fun b hb hm => absurd (hml b hm) (Nat.not_lt.2 (hpb b (.inr (.inr (.inr (.inr hb))))))⟩, by show shT p.body = _; unfold shT'; rw [← hsh]; rfl⟩; have h12 := hp.ones
 refine .set (d := 9) (u := .tuple #[.agg (mx [p.ev, p.dv] p.body.cs []), .int .i64 ((parseR l).2.1), .int .i64 ((parseR l).2.2)]) rfl (by rw [hp.mx]) (.move rfl rfl (.extract rfl rfl rfl (.extract rfl rfl rfl (.extract rfl rfl rfl ?_))))
 refine At.alloc ze38 rfl (fun b3 w4 F2 => ?_)
 have n_b1_b3 := F2.ne' hb1
 replace hb1 := F2.old hb1
 have hb3 : w4.heap[b3]? = some (.cells #[zN, zN, zI, zI, zS, zS, zI, zN, zN, zI, zS, zI, zN, zN, zI, zN, zI, zI, zS, zI, zN, zN, zI] 38) := F2.new
 refine At.storeAll rfl rfl hb3 (sz38.trans (congrArg some (mx_size (pre := [p.ev, p.dv]) (post := []) hT.1.one.size).symm)) (mx_size (pre := [p.ev, p.dv]) (post := []) hT.1.one.size).symm (mx_all (by simp only [List.all_cons, List.all_nil, h12.1, h12.2, Bool.and_true] <;> rfl) hT.1.one.one rfl) (fun w5 S1 => ?_)
 replace hb1 := S1.other hb1 n_b1_b3
 replace hb3 : w5.heap[b3]? = some (.cells (mx [p.ev, p.dv] p.body.cs []) 38) := S1.new
 replace hG := hG.below (F2.bel2 S1)
 replace hT := hT.gr (Gr.of (F2.bel2 S1) _) lR
 refine .assign rfl rfl (.assign rfl rfl (.ops0 (.thenN (.seq (.region (.load rfl (Ld.own ag38 (sz38.trans (congrArg some (mx_size (pre := [p.ev, p.dv]) (post := []) hT.1.one.size).symm)) hb3) rfl ?_))))))
 refine At.storeAll rfl rfl hb1 (sz38.trans (congrArg some (mx_size (pre := [p.ev, p.dv]) (post := []) hT.1.one.size).symm)) (mx_size (pre := [p.ev, p.dv]) (post := []) hT.1.one.size).symm (mx_all (by simp only [List.all_cons, List.all_nil, h12.1, h12.2, Bool.and_true] <;> rfl) hT.1.one.one rfl) (fun w6 S2 => ?_)
 replace hb1 : w6.heap[b1]? = some (.cells (mx [p.ev, p.dv] p.body.cs []) 38) := S2.new
 replace hG := hG.set S2 (.inr gb1)
 replace hT := hT.gr ((Gr.refl _ _).set S2 (.inl (by simp))) lR
 refine .ops0 (.thenN (.retc (.doneR (ResV.cell rfl (Ld.own ag38 (sz38.trans (congrArg some (mx_size (pre := [p.ev, p.dv]) (post := []) hT.1.one.size).symm)) hb1) ResV.nil) ?_)))
 exact ⟨p.ev, p.dv, p.body, rfl, h12.1, h12.2, hT.weak (fun q hq => by simp [hq]), hG.base⟩
theorem shown_any {m : Int} (w : World)  (hm : w.cell? ⟨0, 0, none⟩ = some (.int .i64 m)) :
  Calls Tryz.prog 11 ([] : List Value).toArray w fun r w' => r = .returned (.bool true) ∧ Below w.heap.size w w' := by
 have hG := Gr.refl [] w
 refine At.enter (N := 65) Tryz.func11 rfl rfl (by simp) [] (by simp) ?_
 refine .seq (.region (.assign rfl rfl (.ops0 (.thenN (.seq (.region ?_))))))
 refine At.call en21 rfl rfl (read_any (M := []) (nc := 0) shB1 _ (MLt.nil _) (by decide) (cell_keep hm hG.base) (by kernel_rfl)) (fun e w1 hR => ?_)
 obtain ⟨va1, vb1, tm1, rfl, oa1, ob1, hT1, hbl1⟩ := hR; refine ⟨_, rfl, ?_⟩
 replace hG := hG.below hbl1
 refine At.call en14 rfl rfl (run_any (E := []) (l := []) 100 _ oa1 ob1 hT1.1 (MLt.nil _) (RowsAt.nil _ 1) (by decide) (by decide) (by rw [hT1.2]; exact sh1.1)) (fun e w2 hR => ?_)
 obtain ⟨cs, rfl, hra, hbl2⟩ := hR; refine ⟨_, rfl, ?_⟩; rw [hT1.2] at hra; replace hra : RAt [] w2 cs sr1 := hra
 replace hG := hG.below hbl2
 obtain ⟨rk1, rn1, rm1, rv1, rt1, rfl, ho1, hi1, hz1⟩ := hra; replace ho1 : TO [] w2 rk1 rn1 rm1 rv1 sr1.v := ho1; replace hi1 : TI [] w2 rt1 sr1.tr := ⟨hi1, hz1⟩
 have hn1 : rn1 = 3 := by have h := OAt.n ho1; rw [sr1_is.2.1] at h; exact h.symm
 refine At.alloc ze49 rfl (fun b1 w3 F1 => ?_)
 have hb1 : w3.heap[b1]? = some (.cells #[zI, zI, zI, zS, zN, zN, zI, zI] 49) := F1.new
 refine At.storeAll rfl rfl hb1 sz49 rfl (by first | (simp [Value.oneCell', (OAt.one ho1), hi1.1.ok.one]; done) | (simp only [List.all_toArray, List.all_cons, List.all_nil, (OAt.one ho1), hi1.1.ok.one, Bool.and_true, Bool.true_and] <;> rfl)) (fun w4 S1 => ?_)
 replace hb1 : w4.heap[b1]? = some (.cells #[.int .i64 sr1.ok, .int .i64 rk1, .int .i64 rn1, .string rm1, rv1, rt1, .int .i64 sr1.st, .int .i64 sr1.kn] 49) := S1.new
 replace hG := hG.below (F1.bel2 S1)
 refine .ops0 (.thenN (.seq (.region ?_)))
 refine At.call en21 rfl rfl (read_any (M := []) (nc := 0) shB2 _ (MLt.nil _) (by decide) (cell_keep hm hG.base) (by kernel_rfl)) (fun e w5 hR => ?_)
 obtain ⟨va2, vb2, tm2, rfl, oa2, ob2, hT2, hbl3⟩ := hR; refine ⟨_, rfl, ?_⟩
 replace hb1 := Below.old hbl3 hb1
 replace hG := hG.below hbl3
 refine At.call en14 rfl rfl (run_any (E := []) (l := []) 100 _ oa2 ob2 hT2.1 (MLt.nil _) (RowsAt.nil _ 1) (by decide) (by decide) (by rw [hT2.2]; exact sh2.1)) (fun e w6 hR => ?_)
 obtain ⟨cs, rfl, hra, hbl4⟩ := hR; refine ⟨_, rfl, ?_⟩; rw [hT2.2] at hra; replace hra : RAt [] w6 cs sr2 := hra
 replace hb1 := Below.old hbl4 hb1
 replace hG := hG.below hbl4
 obtain ⟨rk2, rn2, rm2, rv2, rt2, rfl, ho2, hi2, hz2⟩ := hra; replace ho2 : TO [] w6 rk2 rn2 rm2 rv2 sr2.v := ho2; replace hi2 : TI [] w6 rt2 sr2.tr := ⟨hi2, hz2⟩
 rw [sr2_is.2] at hi2
 refine At.alloc ze49 rfl (fun b2 w7 F2 => ?_)
 have n_b1_b2 := F2.ne' hb1
 replace hb1 := F2.old hb1
 have hb2 : w7.heap[b2]? = some (.cells #[zI, zI, zI, zS, zN, zN, zI, zI] 49) := F2.new
 refine At.storeAll rfl rfl hb2 sz49 rfl (by first | (simp [Value.oneCell', (OAt.one ho2), hi2.1.ok.one]; done) | (simp only [List.all_toArray, List.all_cons, List.all_nil, (OAt.one ho2), hi2.1.ok.one, Bool.and_true, Bool.true_and] <;> rfl)) (fun w8 S2 => ?_)
 replace hb1 := S2.other hb1 n_b1_b2
 replace hb2 : w8.heap[b2]? = some (.cells #[.int .i64 sr2.ok, .int .i64 rk2, .int .i64 rn2, .string rm2, rv2, rt2, .int .i64 sr2.st, .int .i64 sr2.kn] 49) := S2.new
 replace hG := hG.below (F2.bel2 S2)
 replace hi2 := hi2.gr (Gr.of (F2.bel2 S2) _) lR
 refine .ops0 (.thenN (.seq (.region ?_)))
 refine At.call en21 rfl rfl (read_any (M := []) (nc := 0) shB3 _ (MLt.nil _) (by decide) (cell_keep hm hG.base) (by kernel_rfl)) (fun e w9 hR => ?_)
 obtain ⟨va3, vb3, tm3, rfl, oa3, ob3, hT3, hbl5⟩ := hR; refine ⟨_, rfl, ?_⟩
 replace hb1 := Below.old hbl5 hb1
 replace hb2 := Below.old hbl5 hb2
 replace hG := hG.below hbl5
 replace hi2 := hi2.gr (Gr.of hbl5 _) lR
 refine At.call en14 rfl rfl (run_any (E := []) (l := []) 100 _ oa3 ob3 hT3.1 (MLt.nil _) (RowsAt.nil _ 1) (by decide) (by decide) (by rw [hT3.2]; exact sh3.1)) (fun e w10 hR => ?_)
 obtain ⟨cs, rfl, hra, hbl6⟩ := hR; refine ⟨_, rfl, ?_⟩; rw [hT3.2] at hra; replace hra : RAt [] w10 cs sr3 := hra
 replace hb1 := Below.old hbl6 hb1
 replace hb2 := Below.old hbl6 hb2
 replace hG := hG.below hbl6
 replace hi2 := hi2.gr (Gr.of hbl6 _) lR
 obtain ⟨rk3, rn3, rm3, rv3, rt3, rfl, ho3, hi3, hz3⟩ := hra; replace ho3 : TO [] w10 rk3 rn3 rm3 rv3 sr3.v := ho3; replace hi3 : TI [] w10 rt3 sr3.tr := ⟨hi3, hz3⟩
 refine At.alloc ze49 rfl (fun b3 w11 F3 => ?_)
 have n_b1_b3 := F3.ne' hb1
 have n_b2_b3 := F3.ne' hb2
 replace hb1 := F3.old hb1
 replace hb2 := F3.old hb2
 have hb3 : w11.heap[b3]? = some (.cells #[zI, zI, zI, zS, zN, zN, zI, zI] 49) := F3.new
 refine At.storeAll rfl rfl hb3 sz49 rfl (by first | (simp [Value.oneCell', (OAt.one ho3), hi3.1.ok.one]; done) | (simp only [List.all_toArray, List.all_cons, List.all_nil, (OAt.one ho3), hi3.1.ok.one, Bool.and_true, Bool.true_and] <;> rfl)) (fun w12 S3 => ?_)
 replace hb1 := S3.other hb1 n_b1_b3
 replace hb2 := S3.other hb2 n_b2_b3
 replace hb3 : w12.heap[b3]? = some (.cells #[.int .i64 sr3.ok, .int .i64 rk3, .int .i64 rn3, .string rm3, rv3, rt3, .int .i64 sr3.st, .int .i64 sr3.kn] 49) := S3.new
 replace hG := hG.below (F3.bel2 S3)
 replace hi2 := hi2.gr (Gr.of (F3.bel2 S3) _) lR
 refine .ops0 (.thenN (.seq (.region ?_)))
 refine At.call en21 rfl rfl (read_any (M := []) (nc := 0) shB4 _ (MLt.nil _) (by decide) (cell_keep hm hG.base) (by kernel_rfl)) (fun e w13 hR => ?_)
 obtain ⟨va4, vb4, tm4, rfl, oa4, ob4, hT4, hbl7⟩ := hR; refine ⟨_, rfl, ?_⟩
 replace hb1 := Below.old hbl7 hb1
 replace hb2 := Below.old hbl7 hb2
 replace hb3 := Below.old hbl7 hb3
 replace hG := hG.below hbl7
 replace hi2 := hi2.gr (Gr.of hbl7 _) lR
 refine At.call en14 rfl rfl (run_any (E := []) (l := []) 100 _ oa4 ob4 hT4.1 (MLt.nil _) (RowsAt.nil _ 1) (by decide) (by decide) (by rw [hT4.2]; exact sh4.1)) (fun e w14 hR => ?_)
 obtain ⟨cs, rfl, hra, hbl8⟩ := hR; refine ⟨_, rfl, ?_⟩; rw [hT4.2] at hra; replace hra : RAt [] w14 cs sr4 := hra
 replace hb1 := Below.old hbl8 hb1
 replace hb2 := Below.old hbl8 hb2
 replace hb3 := Below.old hbl8 hb3
 replace hG := hG.below hbl8
 replace hi2 := hi2.gr (Gr.of hbl8 _) lR
 obtain ⟨rk4, rn4, rm4, rv4, rt4, rfl, ho4, hi4, hz4⟩ := hra; replace ho4 : TO [] w14 rk4 rn4 rm4 rv4 sr4.v := ho4; replace hi4 : TI [] w14 rt4 sr4.tr := ⟨hi4, hz4⟩
 refine At.alloc ze49 rfl (fun b4 w15 F4 => ?_)
 have n_b1_b4 := F4.ne' hb1
 have n_b2_b4 := F4.ne' hb2
 have n_b3_b4 := F4.ne' hb3
 replace hb1 := F4.old hb1
 replace hb2 := F4.old hb2
 replace hb3 := F4.old hb3
 have hb4 : w15.heap[b4]? = some (.cells #[zI, zI, zI, zS, zN, zN, zI, zI] 49) := F4.new
 refine At.storeAll rfl rfl hb4 sz49 rfl (by first | (simp [Value.oneCell', (OAt.one ho4), hi4.1.ok.one]; done) | (simp only [List.all_toArray, List.all_cons, List.all_nil, (OAt.one ho4), hi4.1.ok.one, Bool.and_true, Bool.true_and] <;> rfl)) (fun w16 S4 => ?_)
 replace hb1 := S4.other hb1 n_b1_b4
 replace hb2 := S4.other hb2 n_b2_b4
 replace hb3 := S4.other hb3 n_b3_b4
 replace hb4 : w16.heap[b4]? = some (.cells #[.int .i64 sr4.ok, .int .i64 rk4, .int .i64 rn4, .string rm4, rv4, rt4, .int .i64 sr4.st, .int .i64 sr4.kn] 49) := S4.new
 replace hG := hG.below (F4.bel2 S4)
 replace hi2 := hi2.gr (Gr.of (F4.bel2 S4) _) lR
 refine .ops0 (.thenN (.seq (.region ?_)))
 refine At.join [(0, .bool (decide ((([7] : List Int).length : Int) = 1)))] (fun w' => w16 = w') ?_ (fun w17 hS => ?_)
 ·skip
  refine .fieldAddr rfl fo49_0 rfl (.fieldAddr rfl fo47_0 rfl (.load rfl (Ld.ownCell ag3 hb1 rfl) rfl (.eqI rfl rfl rfl (.set (d := 16) (u := .bool true) rfl (congrArg Value.bool (decide_eq_true sr1_is.1)) (.move rfl rfl (.yes rfl rfl rfl rfl (.fieldAddr rfl fo49_0 rfl (.yes rfl rfl rfl rfl (.fieldAddr rfl fo47_1 rfl (.yes rfl rfl rfl rfl (.fieldAddr rfl fo45_1 rfl (.yes rfl rfl rfl rfl (.load rfl (Ld.ownCell ag3 hb1 rfl) rfl (.yes rfl rfl rfl rfl (.eqI rfl rfl rfl (.set (d := 22) (u := .bool true) rfl (congrArg Value.bool (decide_eq_true hn1)) (.pickT rfl rfl rfl (.move rfl rfl (.yes rfl rfl rfl rfl (.fieldAddr rfl fo49_3 rfl (.yes rfl rfl rfl rfl (.load rfl (Ld.ownCell ag3 hb1 rfl) rfl (.yes rfl rfl rfl rfl (.eqI rfl rfl rfl (.set (d := 27) (u := .bool true) rfl (congrArg Value.bool (decide_eq_true sr1_is.2.2)) (.pickT rfl rfl rfl (.move rfl rfl (.yes rfl rfl rfl rfl (.fieldAddr rfl fo49_0 rfl (.yes rfl rfl rfl rfl (.fieldAddr rfl fo47_0 rfl (.yes rfl rfl rfl rfl (.load rfl (Ld.ownCell ag3 hb2 rfl) rfl (.yes rfl rfl rfl rfl (.eqI rfl rfl rfl (.set (d := 33) (u := .bool true) rfl (congrArg Value.bool (decide_eq_true sr2_is.1)) (.pickT rfl rfl rfl (.move rfl rfl (.yes rfl rfl rfl rfl ?_)))))))))))))))))))))))))))))))))))))))
  refine .fieldAddr rfl fo49_1 rfl (.yes rfl rfl rfl rfl (.load rfl (Ld.ownCell ag32 hb2 rfl) rfl (.yes rfl rfl rfl rfl (.lenSl rfl hi2.1.ok el32 rfl (.yes rfl rfl rfl rfl (.eqI rfl rfl rfl (.pickT rfl rfl rfl (.move rfl rfl ?_))))))))
  refine At.cases (decide ((([7] : List Int).length : Int) = 1)) (fun hg1 => ?_) (fun hg1 => ?_)
  ·skip
   refine .set (d := 41) (u := .bool true) rfl (congrArg Value.bool hg1) ?_
   have hg1' := of_decide_eq_true hg1
   refine .yes rfl rfl rfl rfl (.fieldAddr rfl fo49_1 rfl (.yes rfl rfl rfl rfl (.load rfl (Ld.ownCell ag32 hb2 rfl) rfl (.yes rfl rfl rfl rfl (.indexAddr (i := 0) rfl rfl hi2.1.ok (lt_of_some (rfl : ([7] : List Int)[0]? = some 7)) el32 sz3 rfl (.yes rfl rfl rfl rfl (.load rfl (Ld.cell ag3 (cell_keep ((hi2.1).get (rfl : ([7] : List Int)[0]? = some 7)) (Below.refl _ _))) rfl (.yes rfl rfl rfl rfl (.eqI rfl rfl rfl (.set (d := 46) (u := .bool true) rfl (congrArg Value.bool (decide_eq_true rfl)) (.pickT rfl rfl rfl (.move rfl rfl (.yes rfl rfl rfl rfl (.fieldAddr rfl fo49_0 rfl (.yes rfl rfl rfl rfl (.fieldAddr rfl fo47_0 rfl (.yes rfl rfl rfl rfl (.load rfl (Ld.ownCell ag3 hb3 rfl) rfl (.yes rfl rfl rfl rfl (.eqI rfl rfl rfl (.set (d := 52) (u := .bool true) rfl (congrArg Value.bool (decide_eq_true sr3_is.1)) (.pickT rfl rfl rfl (.move rfl rfl (.yes rfl rfl rfl rfl (.fieldAddr rfl fo49_2 rfl (.yes rfl rfl rfl rfl (.load rfl (Ld.ownCell ag3 hb3 rfl) rfl (.yes rfl rfl rfl rfl (.eqI rfl rfl rfl (.set (d := 57) (u := .bool true) rfl (congrArg Value.bool (decide_eq_true sr3_is.2)) (.pickT rfl rfl rfl (.move rfl rfl (.yes rfl rfl rfl rfl (.fieldAddr rfl fo49_0 rfl (.yes rfl rfl rfl rfl (.fieldAddr rfl fo47_0 rfl (.yes rfl rfl rfl rfl (.load rfl (Ld.ownCell ag3 hb4 rfl) rfl (.yes rfl rfl rfl rfl ?_)))))))))))))))))))))))))))))))))))))))
   refine .eqI rfl rfl rfl (.set (d := 63) (u := .bool true) rfl (congrArg Value.bool (decide_eq_true sr4_is)) (.pickT rfl rfl rfl (.assign rfl rfl ?_)))
   exact At.joined (Sub.cons (by show some (Value.bool true) = some (Value.bool (decide ((([7] : List Int).length : Int) = 1))); rw [hg1] <;> rfl) sN) rfl
  refine .set (d := 41) (u := .bool false) rfl (congrArg Value.bool hg1) ?_
  have hg1' := of_decide_eq_false hg1
  refine .no rfl rfl rfl rfl rfl rfl rfl (.no rfl rfl rfl rfl rfl rfl rfl (.no rfl rfl rfl rfl rfl rfl rfl (.no rfl rfl rfl rfl rfl rfl rfl (.no rfl rfl rfl rfl rfl rfl rfl (.pickF rfl rfl rfl (.move rfl rfl (.no rfl rfl rfl rfl rfl rfl rfl (.no rfl rfl rfl rfl rfl rfl rfl (.no rfl rfl rfl rfl rfl rfl rfl (.no rfl rfl rfl rfl rfl rfl rfl (.pickF rfl rfl rfl (.move rfl rfl (.no rfl rfl rfl rfl rfl rfl rfl (.no rfl rfl rfl rfl rfl rfl rfl (.no rfl rfl rfl rfl rfl rfl rfl (.pickF rfl rfl rfl (.move rfl rfl (.no rfl rfl rfl rfl rfl rfl rfl (.no rfl rfl rfl rfl rfl rfl rfl (.no rfl rfl rfl rfl rfl rfl rfl (.no rfl rfl rfl rfl rfl rfl rfl (.pickF rfl rfl rfl (.assign rfl rfl ?_)))))))))))))))))))))))
  exact At.joined (Sub.cons (by show some (Value.bool false) = some (Value.bool (decide ((([7] : List Int).length : Int) = 1))); rw [hg1] <;> rfl) sN) rfl
 subst hS
 refine .thenN (.retc (.doneR (ResV.tmp rfl ResV.nil) ?_))
 exact ⟨rfl, hG.base⟩
abbrev nmA' : ByteArray := ⟨#[97]⟩
abbrev nmB' : ByteArray := ⟨#[98]⟩
abbrev nmC' : ByteArray := ⟨#[99]⟩
def nmsC : List ByteArray := [nmA', nmB', nmC']
def idx (p : Int) : Nat := ((bits .and .i64 p 65535).tmod ((3 : Nat) : Int)).toNat
theorem idx_lt (p : Int) : idx p < 3 := by
  obtain ⟨q, h1, h2⟩ := and_mod p (k := 3) (by decide)
  unfold idx; rw [h1]; exact h2
def nmI (i : Nat) : ByteArray := nmsC.getD i nmA'
def tellT (i : Nat) (t : ST) : ST := tLet nmU (tOp nmPrint [tOp nmGet [tVar (nmI i)]]) t
def putT (p : Int) (t : ST) : ST := tLet nmU (tOp nmSet [tVar (nmI (idx p)), tI p]) (tellT (idx p) t)
def tailT : ST := tellT 0 (tellT 1 (tellT 2 tU))
def putsT : List Int → ST
  | [] => tailT
  | p :: r => putT p (putsT r)
def refT (i : Nat) (j : Int) (t : ST) : ST := tLet (nmI i) (tOp nmRef [tI j]) t
def ceT (a b c : Int) (l : List Int) : ST := refT 0 a (refT 1 b (refT 2 c (putsT l)))
def csF (cs : List Int) (l : List Int) : List Int := l.foldl (fun cs p => cs.set (idx p) p) cs
def ceP (want : List Int) (r : SR) : Prop := r.ok = 1 ∧ r.tr = want
def EnvC (e : X) : Prop := ∀ i, i < 3 → findX (nmI i) e = some (vR (i : Int))
theorem EnvC.u {e v : X} (h : EnvC e) : EnvC (.e nmU v e) := fun i hi => by
  have hne : decide (nmU = nmI i) = false := by
    match i, hi with
    | 0, _ => rfl
    | 1, _ => rfl
    | 2, _ => rfl
  rw [findX, hne]; exact h i hi
section
variable {P : SR → Prop}
theorem tell_run {i : Nat} (hi : i < 3) {t : ST} {e : X} {cs tr : List Int} {k : Nat} (he : EnvC e) (hc : cs.length ≤ 3) (ht : tr.length ≤ 1000) (hk : QT P k t (.e nmU vU e) .nil ⟨cs.map vI, [], tr ++ [cs.getD i 0], 0⟩) (hic : i < cs.length) :
    QT P (k + 6 + 1) (tellT i t) e .nil ⟨cs.map vI, [], tr, 0⟩ := by
  have hb : ∀ {y : X} {tr : List Int}, tr.length ≤ 1001 → lenX y ≤ 1100 → Bd y ⟨cs.map vI, [], tr, 0⟩ := fun h1 h => .of (by simp only; omega) (by simp only [List.length_map]; omega) (by omega)
  refine .let_ (hb (by omega) (by simp [lenX])) (.op1 (hb (by omega) (by simp [lenX])) (.op1 (hb (by omega) (by simp [lenX])) (.var (he i hi) (hb (by omega) (by simp [lenX])) (.get (hb (by omega) (by simp [lenX])) ?_))))
  have e1 : (cs.map vI).getD (i : Int).toNat .nil = vI (cs.getD i 0) := by
    rw [Int.toNat_natCast, List.getD_eq_getElem?_getD, List.getElem?_map, List.getElem?_eq_getElem hic]
    simp [List.getElem?_eq_getElem hic]
  rw [e1]
  exact .print (hb (by omega) (by simp [lenX])) (.bnd (hb (by simp; omega) (by simp [lenX])) hk)
theorem put_run {p : Int} {t : ST} {e : X} {cs tr : List Int} {k : Nat} (he : EnvC e) (hc : cs.length = 3) (ht : tr.length ≤ 1000) (hk : ∀ e, EnvC e → QT P k t e .nil ⟨(cs.set (idx p) p).map vI, [], tr ++ [p], 0⟩) :
    QT P (k + 6 + 1 + 7) (putT p t) e .nil ⟨cs.map vI, [], tr, 0⟩ := by
  have hb : ∀ {y : X} {cs tr : List Int}, cs.length ≤ 3 → tr.length ≤ 1001 → lenX y ≤ 1100 → Bd y ⟨cs.map vI, [], tr, 0⟩ := fun h0 h1 h => .of (by simp only; omega) (by simp only [List.length_map]; omega) (by omega)
  have hi := idx_lt p
  refine .let_ (hb (by omega) (by omega) (by simp [lenX])) (.op2 (hb (by omega) (by omega) (by simp [lenX])) (.var (he _ hi) (hb (by omega) (by omega) (by simp [lenX])) (.next (hb (by omega) (by omega) (by simp [lenX])) (.int (hb (by omega) (by omega) (by simp [lenX])) (.set (hb (by omega) (by omega) (by simp [lenX])) ?_)))))
  rw [Int.toNat_natCast, ← List.map_set]
  refine .bnd (hb (by simp; omega) (by omega) (by simp [lenX])) (tell_run hi he.u (by simp; omega) ht ?_ (by simp; omega))
  have e1 : (cs.set (idx p) p).getD (idx p) 0 = p := by simp [List.getD_eq_getElem?_getD, List.getElem?_set, hc, hi]
  rw [e1]; exact hk _ he.u.u
theorem tail_run {e : X} {cs tr : List Int} {k : Nat} (he : EnvC e) (hc : cs.length = 3) (ht : tr.length ≤ 990) : QT (ceP (tr ++ cs)) (k + 1 + 6 + 1 + 6 + 1 + 6 + 1) tailT e .nil ⟨cs.map vI, [], tr, 0⟩ := by
  refine tell_run (by decide) he (by omega) (by omega) (tell_run (by decide) he.u (by omega) (by simp; omega) (tell_run (by decide) he.u.u (by omega) (by simp; omega) ?_ (by omega)) (by omega)) (by omega)
  refine .unit (.of (by simp; omega) (by simp; omega) (by simp [lenX])) (.end_ (.of (by simp; omega) (by simp; omega) (by simp [lenX])) fun c => ⟨rfl, ?_⟩)
  match cs, hc with
  | [a, b, c], _ => simp
theorem puts_run (l : List Int) : ∀ {e : X} {cs tr : List Int} {k : Nat}, EnvC e → cs.length = 3 → tr.length + l.length ≤ 900 → QT (ceP (tr ++ l ++ csF cs l)) (14 * l.length + (k + 22)) (putsT l) e .nil ⟨cs.map vI, [], tr, 0⟩ := by
  induction l with
  | nil => intro e cs tr k he hc ht; rw [show 14 * ([] : List Int).length + (k + 22) = k + 1 + 6 + 1 + 6 + 1 + 6 + 1 by simp, List.append_nil]; exact tail_run he hc (by simp at ht; omega)
  | cons p r ih =>
    intro e cs tr k he hc ht
    rw [List.length_cons] at ht
    rw [show 14 * (p :: r).length + (k + 22) = (14 * r.length + (k + 22)) + 6 + 1 + 7 by rw [List.length_cons]; omega]
    refine put_run he hc (by omega) fun e2 he2 => ?_
    have := ih (e := e2) (cs := cs.set (idx p) p) (tr := tr ++ [p]) (k := k) he2 (by simp [hc]) (by simp; omega)
    rwa [show tr ++ [p] ++ r = tr ++ p :: r by simp] at this
end
theorem env3 : EnvC (.e nmC' (vR 2) (.e nmB' (vR 1) (.e nmA' (vR 0) .nil))) := fun i hi => by
  match i, hi with
  | 0, _ => rfl
  | 1, _ => rfl
  | 2, _ => rfl
theorem cells_run (a b c : Int) (l : List Int) (hl : l.length ≤ 20) : (∀ i, i ≤ (4500 : Int).toNat → Sm (runF i (startF (ceT a b c l) []))) ∧ ceP (l ++ csF [a, b, c] l) (runR (ceT a b c l) [] 4500) := by
  have hb : ∀ {y : X} {cs : List Int}, cs.length ≤ 3 → lenX y ≤ 1100 → Bd y ⟨cs.map vI, [], [], 0⟩ := fun h0 h => .of (by simp) (by simp only [List.length_map]; omega) (by omega)
  refine QT.start (N := (14 * l.length + ((4463 - 14 * l.length) + 22)) + 1 + 1 + 1 + 1 + 1 + 1 + 1 + 1 + 1 + 1 + 1 + 1 + 1 + 1 + 1) ?_ (by show 4500 = _; omega)
  refine .let_ (hb (cs := []) (by simp) (by simp [lenX])) (.op1 (hb (cs := []) (by simp) (by simp [lenX])) (.int (hb (cs := []) (by simp) (by simp [lenX])) (.ref (hb (cs := []) (by simp) (by simp [lenX])) (.bnd (hb (cs := [a]) (by simp) (by simp [lenX])) ?_))))
  refine .let_ (hb (cs := [a]) (by simp) (by simp [lenX])) (.op1 (hb (cs := [a]) (by simp) (by simp [lenX])) (.int (hb (cs := [a]) (by simp) (by simp [lenX])) (.ref (hb (cs := [a]) (by simp) (by simp [lenX])) (.bnd (hb (cs := [a, b]) (by simp) (by simp [lenX])) ?_))))
  refine .let_ (hb (cs := [a, b]) (by simp) (by simp [lenX])) (.op1 (hb (cs := [a, b]) (by simp) (by simp [lenX])) (.int (hb (cs := [a, b]) (by simp) (by simp [lenX])) (.ref (hb (cs := [a, b]) (by simp) (by simp [lenX])) (.bnd (hb (cs := [a, b, c]) (by simp) (by simp [lenX])) ?_))))
  exact puts_run l (cs := [a, b, c]) (tr := []) env3 rfl (by simp; omega)
abbrev fI (n : Int) : Array Value := #[.int .i64 n]
abbrev arC (cs : List Int) : Array Value := (cs.map (Value.int .i64)).toArray
theorem arC_size {cs : List Int} (h : cs.length = 3) : (arC cs).size = 3 := by simp [h]
theorem arC_one (cs : List Int) : (arC cs).all (·.oneCell') = true := by
  rw [List.all_toArray, List.all_map, List.all_eq_true]; intro x _; rfl
theorem arC_get {cs : List Int} {i : Nat} (h : cs.length = 3) (hi : i < 3) : (arC cs)[0 + i * 1]? = some (.int .i64 (cs.getD i 0)) := by
  have h1 : i < cs.length := by omega
  simp [List.getD_eq_getElem?_getD, List.getElem?_eq_getElem h1]
theorem arC_lt {cs : List Int} {i : Nat} (h : cs.length = 3) (hi : i < 3) : 0 + i * 1 < (arC cs).size := by rw [arC_size h]; omega
theorem arC_set (cs : List Int) (i : Nat) (x : Int) : (arC cs).setIfInBounds (0 + i * 1) (.int .i64 x) = arC (cs.set i x) := by
  simp [List.map_set]
theorem set_three {cs : List Int} (h : cs.length = 3) (i : Nat) (x : Int) : (cs.set i x).length = 3 := by rw [List.length_set]; exact h
theorem csF_snoc (cs l : List Int) (p : Int) : csF cs (l ++ [p]) = (csF cs l).set (idx p) p := by simp [csF]
theorem idx_is {x : Int} {q : Nat} (h : (bits .and .i64 x 65535).tmod ((3 : Nat) : Int) = (q : Int)) : idx x = q := by unfold idx; rw [h]; rfl
theorem three {cs : List Int} (h : cs.length = 3) : [cs.getD 0 0, cs.getD 1 0, cs.getD 2 0] = cs := by
  match cs, h with
  | [a, b, c], _ => rfl
def tlN : Nat → ST
  | 0 => tailT
  | 1 => tellT 1 (tellT 2 tU)
  | 2 => tellT 2 tU
  | _ => tU
theorem tlN_step {p : Nat} (h : p < 3) : tellT p (tlN (p + 1)) = tlN p := by
  match p, h with
  | 0, _ => rfl
  | 1, _ => rfl
  | 2, _ => rfl
def rfN (cs : List Int) (t : ST) : Nat → ST
  | 0 => refT 0 (cs.getD 0 0) (refT 1 (cs.getD 1 0) (refT 2 (cs.getD 2 0) t))
  | 1 => refT 1 (cs.getD 1 0) (refT 2 (cs.getD 2 0) t)
  | 2 => refT 2 (cs.getD 2 0) t
  | _ => t
theorem rfN_step (cs : List Int) (t : ST) {p : Nat} (h : p < 3) : refT p (cs.getD p 0) (rfN cs t (p + 1)) = rfN cs t p := by
  match p, h with
  | 0, _ => rfl
  | 1, _ => rfl
  | 2, _ => rfl
theorem puts_step {ps : List Int} {p : Nat} {u : Int} (h : ps[p]? = some u) : putT u (putsT (ps.drop (p + 1))) = putsT (ps.drop p) := by
  obtain ⟨hl, rfl⟩ := List.getElem?_eq_some_iff.1 h
  rw [List.drop_eq_getElem_cons hl, putsT]
theorem cells_law {cs ps : List Int} (hc : cs.length = 3) (hp : ps.length ≤ 20) : (∀ i, i ≤ (4500 : Int).toNat → Sm (runF i (startF (rfN cs (putsT ps) 0) []))) ∧ ceP (ps ++ csF cs ps) (runR (rfN cs (putsT ps) 0) [] 4500) := by
  have h := cells_run (cs.getD 0 0) (cs.getD 1 0) (cs.getD 2 0) ps hp
  rw [three hc] at h
  exact h
theorem nm_at {k : Nat} (h : k < 3) : (#[Value.string nmA', .string nmB', .string nmC'] : Array Value)[0 + k * 1]? = some (.string (nmI k)) := by
  match k, h with
  | 0, _ => rfl
  | 1, _ => rfl
  | 2, _ => rfl
theorem slOk_lit (b : Nat) {n : Nat} (h : n ≤ 9223372036854775807) : SlOk (.slice (some ⟨b, 0, none⟩) n n) n := .inr ⟨_, _, rfl, Nat.le_refl _, fun _ => rfl⟩
theorem ap_sym {a b : Option Nat} (h : a = none ∨ a ≠ b) : b = none ∨ b ≠ a := by
  rcases h with rfl | h
  · cases b <;> simp
  · exact .inr h.symm
theorem TI.ofR {w : World} {v : Value} {l : List Int} (h : OwnR 3 1 fI w v l) : TI [] w v l := TI.ofOwn (by unfold OwnR at h; rw [flat_ints] at h; exact h) (fun g _ h => by cases h)
def arrB (P : Program) (t : TypeId) : Option (Nat × TypeId) := match P.underlying t with | some (.array n e) => some (n, e) | _ => none
theorem underlying_arr {P : Program} {t e : TypeId} {n : Nat} (h : arrB P t = some (n, e)) : P.underlying t = some (.array n e) := by
  unfold arrB at h
  split at h
  · simp only [Option.some.injEq, Prod.mk.injEq] at h; obtain ⟨rfl, rfl⟩ := h; assumption
  · cases h
theorem At.indexArr {P : Program} {N : Nat} {ds : List Deferred} {L : List (Nat × Value)} {w : World} {ops : Array Oper} {Q : Exit → Act → World → Prop} {rest : List Oper} {d : Nat} {ty : TypeId} {pos : String} {aft : Array Edge} {x y : Operand} {t e : TypeId} {q : IntKind} {i n sz b o : Nat}
    (hx : ev L x = some (.pointer (some ⟨b, o, none⟩))) (hy : ev L y = some (.int q (i : Int))) (hu : arrB P t = some (n, e)) (hi : i < n) (hz : sizeB P e = some sz) (hN : Nat.blt d N = true)
    (k : At N ds ((d, .pointer (some ⟨b, o + i * sz, none⟩)) :: L) (wpList P ops Q rest) w) : At N ds L (wpList P ops Q (⟨some d, .indexAddr t x y, ty, pos, aft, none⟩ :: rest)) w :=
  At.op rfl rfl hN (fun a ha => by
    have h0 : (0 : Int) ≤ (i : Int) ∧ (i : Int) < (n : Int) := by omega
    simp only [execOp, ha.ev hx, ha.ev hy, Instr.indexAt, asIntOf, Sem.run_bind, Sem.run_pure, Result.andThen_ok, run_underlying (underlying_arr hu), Instr.sureAddr, if_pos h0, run_sizeOf hz, add_at, Int.toNat_natCast]) k
theorem ag59 : aggB Tryz.prog 59 = some true := by kernel_rfl
theorem ar59 : arrB Tryz.prog 59 = some (3, 3) := by kernel_rfl
theorem en11 : entB Tryz.prog 11 = true := by kernel_rfl
theorem en16 : entB Tryz.prog 16 = true := by kernel_rfl
theorem en17 : entB Tryz.prog 17 = true := by kernel_rfl
theorem en18 : entB Tryz.prog 18 = true := by kernel_rfl
theorem en19 : entB Tryz.prog 19 = true := by kernel_rfl
theorem en20 : entB Tryz.prog 20 = true := by kernel_rfl
theorem sd38 : sizedB Tryz.prog 38 = true := by kernel_rfl
theorem sz59 : sizeB Tryz.prog 59 = some 3 := by kernel_rfl
theorem ze59 : zeroB Tryz.prog 59 = some (.agg #[.int .i64 0, .int .i64 0, .int .i64 0]) := by kernel_rfl
set_option maxHeartbeats 4000000 in
theorem sourceCells_any {m : Int} {v1 v2 : Value} {l1 l2 : List Int} (w : World)  (hv1 : IntsAt w v1 l1) (hv2 : IntsAt w v2 l2) (hm : w.cell? ⟨0, 0, none⟩ = some (.int .i64 m)) :
  Calls Tryz.prog 8 ([v1, v2] : List Value).toArray w fun r w' => r = .returned (.bool true) ∧ Below w.heap.size w w' := by
 have hlv := hv1.lenL; have hlw := hv2.lenL
 have hG := Gr.refl [] w
 refine At.enter (N := 165) Tryz.func8 rfl rfl (by simp) [(0, v1), (1, v2)] (by simp) ?_
 refine .seq (.region (.assign rfl rfl (.ops0 (.thenN (.seq (.region ?_))))))
 refine At.call en11 rfl rfl (shown_any _ (cell_keep hm hG.base)) (fun e w1 hR => ?_)
 obtain ⟨rfl, hbl1⟩ := hR
 refine ⟨_, rfl, ?_⟩
 replace hG := hG.below hbl1
 refine .assign rfl rfl (.ops0 (.thenN (.seq (.region ?_))))
 refine At.buildSlice (xs := [.const (.string (⟨#[97]⟩ : ByteArray)), .const (.string (⟨#[98]⟩ : ByteArray)), .const (.string (⟨#[99]⟩ : ByteArray))]) rfl rfl el25 sz9 ze9 (by intro v hv; simp only [List.mem_cons, List.not_mem_nil, or_false] at hv; rcases hv with rfl | rfl | rfl <;> rfl) rfl (by decide) rfl (fun b1 w2 F1 => ?_)
 have hb1 : w2.heap[b1]? = some (.cells #[.string (⟨#[97]⟩ : ByteArray), .string (⟨#[98]⟩ : ByteArray), .string (⟨#[99]⟩ : ByteArray)] 9) := F1.new
 replace hG := hG.below F1.bel
 refine .assign rfl rfl (.ops0 (.thenN (.seq (.region ?_))))
 refine At.alloc ze59 rfl (fun b2 w3 F2 => ?_)
 have n_b1_b2 := F2.ne' hb1
 have gb2 := F2.gq hG.size
 replace hb1 := F2.old hb1
 have hb2 : w3.heap[b2]? = some (.cells (arC ([0, 0, 0])) 59) := F2.new
 replace hG := hG.below F2.bel
 refine .ops0 (.thenN (.seq (.region (.assign rfl rfl (.ops0 (.thenN (.seq (.seq (.region (.assign rfl rfl (.ops0 (.thenN (.block ?_)))))))))))))
 refine At.loop (Nat × List Int) (fun (i, cs) => [(0, v1), (1, v2), (5, .bool true), (6, .slice (some ⟨b1, 0, none⟩) 3 3), (7, .pointer (some ⟨b2, 0, none⟩)), (8, zN), (9, .int .i64 (i : Int))]) (fun (i, cs) w4 => Gr [] w [] w4 ∧ w4.heap[b1]? = some (.cells #[.string (⟨#[97]⟩ : ByteArray), .string (⟨#[98]⟩ : ByteArray), .string (⟨#[99]⟩ : ByteArray)] 9) ∧ w4.heap[b2]? = some (.cells (arC cs) 59) ∧ (i ≤ 3) ∧ (cs.length = 3)) (fun (i, cs) => 3 - i) (0, [0, 0, 0]) (sC rfl (sC rfl (sC rfl (sC rfl (sC rfl (sC rfl (sC rfl sN))))))) ⟨hG, hb1, hb2, (Nat.zero_le _), (rfl)⟩ (fun gh w4 hI => ?_)
 obtain ⟨i, cs⟩ := gh
 obtain ⟨hG, hb1, hb2, hi3, hcl⟩ := hI
 show At _ _ [(0, v1), (1, v2), (5, .bool true), (6, .slice (some ⟨b1, 0, none⟩) 3 3), (7, .pointer (some ⟨b2, 0, none⟩)), (8, zN), (9, .int .i64 (i : Int))] _ _
 refine .seq (.seq (.region ?_))
 refine At.join [(0, v1), (1, v2), (5, .bool true), (6, .slice (some ⟨b1, 0, none⟩) 3 3), (7, .pointer (some ⟨b2, 0, none⟩)), (8, zN), (9, .int .i64 (i : Int)), (29, .bool (decide ((i : Int) < 3) && decide ((i : Int) < (l1.length : Int))))] (fun w' => w4 = w') ?_ (fun w5 hS => ?_)
 ·skip
  refine .move rfl rfl (.lss rfl rfl rfl (.move rfl rfl ?_))
  refine At.cases (decide ((i : Int) < 3)) (fun hg1 => ?_) (fun hg1 => ?_)
  ·skip
   refine .set (d := 24) (u := .bool true) rfl (congrArg Value.bool hg1) ?_
   have hg1' := of_decide_eq_true hg1
   refine .yes rfl rfl rfl rfl (.move rfl rfl (.yes rfl rfl rfl rfl (.move rfl rfl (.yes rfl rfl rfl rfl (.lenSl rfl hv1.ok el32 rfl (.yes rfl rfl rfl rfl (.lss rfl rfl rfl (.pickT rfl rfl rfl ?_))))))))
   exact At.joined (sC rfl (sC rfl (sC rfl (sC rfl (sC rfl (sC rfl (sC rfl (Sub.cons (by show some (Value.bool (decide ((i : Int) < (l1.length : Int)))) = some (Value.bool (decide ((i : Int) < 3) && decide ((i : Int) < (l1.length : Int)))); rw [hg1] <;> rfl) sN)))))))) rfl
  refine .set (d := 24) (u := .bool false) rfl (congrArg Value.bool hg1) ?_
  have hg1' := of_decide_eq_false hg1
  refine .no rfl rfl rfl rfl rfl rfl rfl (.no rfl rfl rfl rfl rfl rfl rfl (.no rfl rfl rfl rfl rfl rfl rfl (.no rfl rfl rfl rfl rfl rfl rfl (.pickF rfl rfl rfl ?_))))
  exact At.joined (sC rfl (sC rfl (sC rfl (sC rfl (sC rfl (sC rfl (sC rfl (Sub.cons (by show some (Value.bool false) = some (Value.bool (decide ((i : Int) < 3) && decide ((i : Int) < (l1.length : Int)))); rw [hg1] <;> rfl) sN)))))))) rfl
 subst hS
 refine .thenN ?_
 refine At.cond (b := (decide ((i : Int) < 3) && decide ((i : Int) < (l1.length : Int)))) rfl (fun hc1 => ?_) (fun hc1 => ?_)
 ·skip
  refine .skip (.thenN (.seq (.block ?_)))
  have hib : i < 3 ∧ i < l1.length := by have q := hc1; simp only [Bool.and_eq_true, decide_eq_true_eq] at q; omega
  refine .region (.move rfl rfl (.move rfl rfl (.move rfl rfl ?_)))
  obtain ⟨u1, hu1⟩ := some_of_lt (l := l1) (i := i) (by omega)
  refine .indexAddr (i := i) rfl rfl hv1.ok (lt_of_some hu1) el32 sz3 rfl (.load rfl (Ld.cell ag3 (cell_keep (((IntsAt.keep hv1 hG.base)).get hu1) (Below.refl _ _))) rfl (.indexArr (i := i) rfl rfl ar59 (by omega) sz3 rfl ?_))
  refine At.store1 rfl rfl hb2 sz3 (arC_lt hcl (by omega)) rfl (fun w6 S1 => ?_)
  replace hb1 := S1.other hb1 n_b1_b2
  replace hb2 : w6.heap[b2]? = some (.cells (arC (cs.set i u1)) 59) := (by have q := S1.new; rw [arC_set] at q; exact q)
  replace hG := hG.set S1 (.inr gb2)
  refine .ops0 (.inN (.thenN (.region (.move rfl rfl (.addI rfl rfl rfl (by omega) (.assign rfl rfl (.ops0 (.thenN ?_))))))))
  exact fun act_ hact_ => ⟨((i + 1), (cs.set i u1)), hact_.sub (sC rfl (sC rfl (sC rfl (sC rfl (sC rfl (sC rfl (sC rfl sN))))))), ⟨hG, hb1, hb2, (by omega), ((set_three hcl _ _))⟩, by first | omega | (dsimp only; omega)⟩
 refine .exit (.thenE (.thenE (.inE (.thenN (.seq (.region (.load rfl (Ld.own ag59 (sz59.trans (congrArg some (arC_size hcl).symm)) hb2) rfl ?_)))))))
 refine At.alloc ze59 rfl (fun b3 w7 F3 => ?_)
 have n_b1_b3 := F3.ne' hb1
 have n_b2_b3 := F3.ne' hb2
 replace hb1 := F3.old hb1
 replace hb2 := F3.old hb2
 have hb3 : w7.heap[b3]? = some (.cells (arC ([0, 0, 0])) 59) := F3.new
 refine At.storeAll rfl rfl hb3 (sz59.trans (congrArg some (arC_size hcl).symm)) ((arC_size rfl).trans (arC_size hcl).symm) (arC_one cs) (fun w8 S2 => ?_)
 replace hb1 := S2.other hb1 n_b1_b3
 replace hb2 := S2.other hb2 n_b2_b3
 replace hb3 : w8.heap[b3]? = some (.cells (arC cs) 59) := S2.new
 replace hG := hG.below (F3.bel2 S2)
 refine .ops0 (.thenN (.seq (.region (.assign rfl rfl (.ops0 (.thenN (.seq (.seq (.region (.assign rfl rfl (.ops0 (.thenN (.block ?_)))))))))))))
 refine At.loop (Nat × List Int × Value × Value) (fun (i, ds, vp, vw) => [(1, v2), (5, .bool true), (6, .slice (some ⟨b1, 0, none⟩) 3 3), (7, .pointer (some ⟨b2, 0, none⟩)), (8, vw), (10, .pointer (some ⟨b3, 0, none⟩)), (11, vp), (12, .int .i64 (i : Int))]) (fun (i, ds, vp, vw) w9 => Gr [] w [] w9 ∧ w9.heap[b1]? = some (.cells #[.string (⟨#[97]⟩ : ByteArray), .string (⟨#[98]⟩ : ByteArray), .string (⟨#[99]⟩ : ByteArray)] 9) ∧ w9.heap[b2]? = some (.cells (arC ds) 59) ∧ w9.heap[b3]? = some (.cells (arC cs) 59) ∧ OwnR 3 1 fI w9 vp (l2.take i) ∧ OwnR 3 1 fI w9 vw (l2.take i) ∧ (i ≤ 20) ∧ (ds.length = 3) ∧ (ds = csF cs (l2.take i)) ∧ (∀ g, vp.ownBlock = some g → w.heap.size ≤ g) ∧ (∀ g, vw.ownBlock = some g → w.heap.size ≤ g) ∧ (vw.ownBlock = none ∨ vw.ownBlock ≠ vp.ownBlock)) (fun (i, ds, vp, vw) => 20 - i) (0, cs, zN, zN) (sC rfl (sC rfl (sC rfl (sC rfl (sC rfl (sC rfl (sC rfl (sC rfl sN)))))))) ⟨hG, hb1, hb2, hb3, (OwnR.nil _ _ _ _), (OwnR.nil _ _ _ _), (Nat.zero_le _), (hcl), (rfl), (fun g h => by cases h), (fun g h => by cases h), (.inl rfl)⟩ (fun gh w9 hI => ?_)
 obtain ⟨i, ds, vp, vw⟩ := gh
 obtain ⟨hG, hb1, hb2, hb3, hP, hW, hi20, hdl, hds, gP, gW, hAp⟩ := hI
 show At _ _ [(1, v2), (5, .bool true), (6, .slice (some ⟨b1, 0, none⟩) 3 3), (7, .pointer (some ⟨b2, 0, none⟩)), (8, vw), (10, .pointer (some ⟨b3, 0, none⟩)), (11, vp), (12, .int .i64 (i : Int))] _ _
 refine .seq (.seq (.region ?_))
 refine At.join [(1, v2), (5, .bool true), (6, .slice (some ⟨b1, 0, none⟩) 3 3), (7, .pointer (some ⟨b2, 0, none⟩)), (8, vw), (10, .pointer (some ⟨b3, 0, none⟩)), (11, vp), (12, .int .i64 (i : Int)), (46, .bool (decide ((i : Int) < (l2.length : Int)) && decide ((i : Int) < 20)))] (fun w' => w9 = w') ?_ (fun w10 hS => ?_)
 ·skip
  refine .move rfl rfl (.move rfl rfl (.lenSl rfl hv2.ok el32 rfl (.lss rfl rfl rfl (.move rfl rfl ?_))))
  refine At.cases (decide ((i : Int) < (l2.length : Int))) (fun hg2 => ?_) (fun hg2 => ?_)
  ·skip
   refine .set (d := 43) (u := .bool true) rfl (congrArg Value.bool hg2) ?_
   have hg2' := of_decide_eq_true hg2
   refine .yes rfl rfl rfl rfl (.move rfl rfl (.yes rfl rfl rfl rfl (.lss rfl rfl rfl (.pickT rfl rfl rfl ?_))))
   exact At.joined (sC rfl (sC rfl (sC rfl (sC rfl (sC rfl (sC rfl (sC rfl (sC rfl (Sub.cons (by show some (Value.bool (decide ((i : Int) < 20))) = some (Value.bool (decide ((i : Int) < (l2.length : Int)) && decide ((i : Int) < 20))); rw [hg2] <;> rfl) sN))))))))) rfl
  refine .set (d := 43) (u := .bool false) rfl (congrArg Value.bool hg2) ?_
  have hg2' := of_decide_eq_false hg2
  refine .no rfl rfl rfl rfl rfl rfl rfl (.no rfl rfl rfl rfl rfl rfl rfl (.pickF rfl rfl rfl ?_))
  exact At.joined (sC rfl (sC rfl (sC rfl (sC rfl (sC rfl (sC rfl (sC rfl (sC rfl (Sub.cons (by show some (Value.bool false) = some (Value.bool (decide ((i : Int) < (l2.length : Int)) && decide ((i : Int) < 20))); rw [hg2] <;> rfl) sN))))))))) rfl
 subst hS
 refine .thenN ?_
 refine At.cond (b := (decide ((i : Int) < (l2.length : Int)) && decide ((i : Int) < 20))) rfl (fun hc2 => ?_) (fun hc2 => ?_)
 ·skip
  refine .skip (.thenN (.seq (.block (.seq ?_))))
  have hib : i < l2.length ∧ i < 20 := by have q := hc2; simp only [Bool.and_eq_true, decide_eq_true_eq] at q; omega
  refine .region (.move rfl rfl (.move rfl rfl ?_))
  obtain ⟨u2, hu2⟩ := some_of_lt (l := l2) (i := i) (by omega)
  refine .indexAddr (i := i) rfl rfl hv2.ok (lt_of_some hu2) el32 sz3 rfl (.load rfl (Ld.cell ag3 (cell_keep (((IntsAt.keep hv2 hG.base)).get hu2) (Below.refl _ _))) rfl (.andI rfl rfl rfl (.remI rfl rfl (by omega) rfl ?_)))
  obtain ⟨nq1, hnq1, lnq1⟩ := and_mod u2 (k := 3) (by decide)
  refine .set (d := 54) (u := .int .i64 (nq1 : Int)) rfl (congrArg (Value.int .i64) hnq1) (.assign rfl rfl (.ops0 (.thenN (.seq (.region (.move rfl rfl (.move rfl rfl (.move rfl rfl (.indexAddr (i := i) rfl rfl hv2.ok (lt_of_some hu2) el32 sz3 rfl (.load rfl (Ld.cell ag3 (cell_keep (((IntsAt.keep hv2 hG.base)).get hu2) (Below.refl _ _))) rfl (.indexArr (i := nq1) rfl rfl ar59 (by omega) sz3 rfl ?_)))))))))))
  have qP := hP.neT hb2 rfl
  have qW := hW.neT hb2 rfl
  refine At.store1 rfl rfl hb2 sz3 (arC_lt hdl (by omega)) rfl (fun w11 S3 => ?_)
  replace hb1 := S3.other hb1 n_b1_b2
  replace hb3 := S3.other hb3 n_b2_b3.symm
  replace hb2 : w11.heap[b2]? = some (.cells (arC (ds.set nq1 u2)) 59) := (by have q := S3.new; rw [arC_set] at q; exact q)
  replace hG := hG.set S3 (.inr gb2)
  replace hP := hP.set S3 qP
  replace hW := hW.set S3 qW
  refine .ops0 (.thenN (.seq (.region (.move rfl rfl (.move rfl rfl (.move rfl rfl (.indexAddr (i := i) rfl rfl hv2.ok (lt_of_some hu2) el32 sz3 rfl (.load rfl (Ld.cell ag3 (cell_keep (((IntsAt.keep hv2 hG.base)).get hu2) (Below.refl _ _))) rfl ?_))))))))
  refine At.buildSlice (xs := [.tmp 65]) rfl rfl el32 sz3 ze3 (by intro v hv; simp only [List.mem_cons, List.not_mem_nil, or_false] at hv; rcases hv with rfl <;> rfl) rfl (by decide) rfl (fun b4 w12 F4 => ?_)
  have hJb4 : IntsAt w12 (.slice (some ⟨b4, 0, none⟩) 1 1) [u2] := IntsAt.own (l := [u2]) F4.new rfl (by decide)
  replace hb1 := F4.old hb1
  replace hb2 := F4.old hb2
  replace hb3 := F4.old hb3
  replace hP := hP.below F4.bel
  replace hW := hW.below F4.bel
  replace hG := hG.below F4.bel
  refine At.appendR (f := fI) (l' := [u2]) rfl rfl el32 el32 sz3 by3 ze3 rfl hP hJb4 (by decide) (fun u _ => by simp [Value.oneCell']) (by rw [List.length_take]; simp only [List.length_cons, List.length_nil]; omega) (by rw [List.length_take]; simp only [List.length_cons, List.length_nil]; omega) rfl (fun va1 w13 hO1 hA1 => ?_)
  replace hb1 := hA1.old hb1 (hP.neT hb1 rfl)
  replace hb2 := hA1.old hb2 (hP.neT hb2 rfl)
  replace hb3 := hA1.old hb3 (hP.neT hb3 rfl)
  have hAq := hA1.neOwn hW hAp
  replace hW : OwnR 3 1 fI w13 vw (l2.take i) := hA1.own hW hAp
  replace hAp := hAq
  have gQ := hA1.ge hG.size gP
  replace hG := hG.app hA1 (fun g hg => .inr (gP g hg))
  replace hP := hO1; replace gP := gQ
  refine .assign rfl rfl (.ops0 (.thenN (.region (.move rfl rfl (.move rfl rfl (.move rfl rfl (.indexAddr (i := i) rfl rfl hv2.ok (lt_of_some hu2) el32 sz3 rfl (.load rfl (Ld.cell ag3 (cell_keep (((IntsAt.keep hv2 hG.base)).get hu2) (Below.refl _ _))) rfl ?_))))))))
  refine At.buildSlice (xs := [.tmp 72]) rfl rfl el32 sz3 ze3 (by intro v hv; simp only [List.mem_cons, List.not_mem_nil, or_false] at hv; rcases hv with rfl <;> rfl) rfl (by decide) rfl (fun b5 w14 F5 => ?_)
  have hJb5 : IntsAt w14 (.slice (some ⟨b5, 0, none⟩) 1 1) [u2] := IntsAt.own (l := [u2]) F5.new rfl (by decide)
  replace hb1 := F5.old hb1
  replace hb2 := F5.old hb2
  replace hb3 := F5.old hb3
  replace hP := hP.below F5.bel
  replace hW := hW.below F5.bel
  replace hG := hG.below F5.bel
  refine At.appendR (f := fI) (l' := [u2]) rfl rfl el32 el32 sz3 by3 ze3 rfl hW hJb5 (by decide) (fun u _ => by simp [Value.oneCell']) (by rw [List.length_take]; simp only [List.length_cons, List.length_nil]; omega) (by rw [List.length_take]; simp only [List.length_cons, List.length_nil]; omega) rfl (fun va2 w15 hO2 hA2 => ?_)
  replace hb1 := hA2.old hb1 (hW.neT hb1 rfl)
  replace hb2 := hA2.old hb2 (hW.neT hb2 rfl)
  replace hb3 := hA2.old hb3 (hW.neT hb3 rfl)
  have hAq := hA2.neOwn hP (ap_sym hAp)
  replace hP : OwnR 3 1 fI w15 va1 ((l2.take i) ++ [u2]) := hA2.own hP (ap_sym hAp)
  replace hAp := ap_sym hAq
  have gQ := hA2.ge hG.size gW
  replace hG := hG.app hA2 (fun g hg => .inr (gW g hg))
  replace hW := hO2; replace gW := gQ
  refine .assign rfl rfl (.ops0 (.inN (.thenN (.region (.move rfl rfl (.addI rfl rfl rfl (by omega) (.assign rfl rfl (.ops0 (.thenN ?_)))))))))
  have hts : l2.take (i + 1) = l2.take i ++ [u2] := by rw [List.take_add_one, hu2]; rfl
  exact fun act_ hact_ => ⟨((i + 1), (ds.set nq1 u2), va1, va2), hact_.sub (sC rfl (sC rfl (sC rfl (sC rfl (sC rfl (sC rfl (sC rfl (sC rfl sN)))))))), ⟨hG, hb1, hb2, hb3, (by rw [hts]; exact hP), (by rw [hts]; exact hW), (by omega), ((set_three hdl _ _)), (by rw [hts, csF_snoc, ← hds, idx_is hnq1]), (gP), (gW), (hAp)⟩, by first | omega | (dsimp only; omega)⟩
 refine .exit (.thenE (.thenE (.inE (.thenN (.seq (.region (.move rfl rfl (.indexArr (i := 0) rfl rfl ar59 (by decide) sz3 rfl (.load rfl (Ld.ownCell ag3 hb2 (arC_get hdl (by decide))) rfl (.indexArr (i := 1) rfl rfl ar59 (by decide) sz3 rfl (.load rfl (Ld.ownCell ag3 hb2 (arC_get hdl (by decide))) rfl (.indexArr (i := 2) rfl rfl ar59 (by decide) sz3 rfl (.load rfl (Ld.ownCell ag3 hb2 (arC_get hdl (by decide))) rfl ?_)))))))))))))
 refine At.buildSlice (xs := [.tmp 77, .tmp 79, .tmp 81]) rfl rfl el32 sz3 ze3 (by intro v hv; simp only [List.mem_cons, List.not_mem_nil, or_false] at hv; rcases hv with rfl | rfl | rfl <;> rfl) rfl (by decide) rfl (fun b6 w16 F6 => ?_)
 have hJb6 : IntsAt w16 (.slice (some ⟨b6, 0, none⟩) 3 3) [(ds.getD 0 0), (ds.getD 1 0), (ds.getD 2 0)] := IntsAt.own (l := [(ds.getD 0 0), (ds.getD 1 0), (ds.getD 2 0)]) F6.new rfl (by decide)
 replace hb1 := F6.old hb1
 replace hb2 := F6.old hb2
 replace hb3 := F6.old hb3
 replace hP := hP.below F6.bel
 replace hW := hW.below F6.bel
 replace hG := hG.below F6.bel
 refine At.appendR (f := fI) (l' := [(ds.getD 0 0), (ds.getD 1 0), (ds.getD 2 0)]) rfl rfl el32 el32 sz3 by3 ze3 rfl hW hJb6 (by decide) (fun u _ => by simp [Value.oneCell']) (by rw [List.length_take]; simp only [List.length_cons, List.length_nil]; omega) (by rw [List.length_take]; simp only [List.length_cons, List.length_nil]; omega) rfl (fun va3 w17 hO3 hA3 => ?_)
 replace hb1 := hA3.old hb1 (hW.neT hb1 rfl)
 replace hb2 := hA3.old hb2 (hW.neT hb2 rfl)
 replace hb3 := hA3.old hb3 (hW.neT hb3 rfl)
 have hAq := hA3.neOwn hP (ap_sym hAp)
 replace hP : OwnR 3 1 fI w17 vp (l2.take i) := hA3.own hP (ap_sym hAp)
 replace hAp := ap_sym hAq
 have gQ := hA3.ge hG.size gW
 replace hG := hG.app hA3 (fun g hg => .inr (gW g hg))
 replace hW := hO3; replace gW := gQ
 refine .assign rfl rfl (.ops0 (.thenN (.seq ?_)))
 have hI8 := TI.ofR hW; have hI11 := TI.ofR hP; obtain ⟨ps, hps⟩ : ∃ z, l2.take i = z := ⟨_, rfl⟩; have hpl : ps.length ≤ 20 := by rw [← hps, List.length_take]; omega
 rw [hps] at hI8 hI11 hds; rw [three hdl, hds] at hI8; clear hP hW
 refine .region (.build (C := #[.int .i64 4, zI, zS, zS, zI, zN, zN, zI, zS, zI, zN, zN, zI, zN, zI, zI, zS, zI, zN, zN, zI]) sd31 ze31 rfl (Bld.cons fo31_0 rfl (lB rfl) (Bld.nil _)) rfl ?_)
 obtain ⟨q1, et1, hT1⟩ := TT.made (M := []) (w := w17) 4 0 eB eB 0 TL.nil TAL.nil
 refine .set (d := 84) (u := .agg q1.cs) rfl (congrArg Value.agg et1) ?_
 refine At.alloc ze31 rfl (fun b7 w18 F7 => ?_)
 have n_b1_b7 := F7.ne' hb1
 have n_b2_b7 := F7.ne' hb2
 have n_b3_b7 := F7.ne' hb3
 have gb7 := F7.gq hG.size
 replace hb1 := F7.old hb1
 replace hb2 := F7.old hb2
 replace hb3 := F7.old hb3
 have hb7 : w18.heap[b7]? = some (.cells #[zI, zI, zS, zS, zI, zN, zN, zI, zS, zI, zN, zN, zI, zN, zI, zI, zS, zI, zN, zN, zI] 31) := F7.new
 replace hG := hG.below F7.bel
 replace hI8 := hI8.gr (Gr.add F7) lR
 replace hI11 := hI11.gr (Gr.add F7) lR
 replace hT1 := hT1.gr (Gr.add F7) lR
 refine At.storeAll rfl rfl hb7 (sz31.trans (congrArg some hT1.1.one.size.symm)) hT1.1.one.size.symm hT1.1.one.one (fun w19 S4 => ?_)
 replace hb1 := S4.other hb1 n_b1_b7
 replace hb2 := S4.other hb2 n_b2_b7
 replace hb3 := S4.other hb3 n_b3_b7
 replace hb7 : w19.heap[b7]? = some (.cells q1.cs 31) := S4.new
 replace hG := hG.set S4 (.inr gb7)
 replace hI8 := hI8.gr ((Gr.refl _ _).set S4 (.inl (by simp))) lR
 replace hI11 := hI11.gr ((Gr.refl _ _).set S4 (.inl (by simp))) lR
 replace hT1 := hT1.gr ((Gr.refl _ _).set S4 (.inl (by simp))) lR
 refine .ops0 (.thenN (.seq (.seq (.region (.assign rfl rfl (.ops0 (.thenN (.block ?_))))))))
 refine At.loop (Nat × Tm) (fun (j, t) => [(5, .bool true), (6, .slice (some ⟨b1, 0, none⟩) 3 3), (8, va3), (10, .pointer (some ⟨b3, 0, none⟩)), (11, vp), (14, .pointer (some ⟨b7, 0, none⟩)), (15, .int .i64 ((j : Int) - 1))]) (fun (j, t) w20 => Gr [] w [] w20 ∧ w20.heap[b1]? = some (.cells #[.string (⟨#[97]⟩ : ByteArray), .string (⟨#[98]⟩ : ByteArray), .string (⟨#[99]⟩ : ByteArray)] 9) ∧ w20.heap[b2]? = some (.cells (arC ds) 59) ∧ w20.heap[b3]? = some (.cells (arC cs) 59) ∧ w20.heap[b7]? = some (.cells t.cs 31) ∧ TT (some b7 :: []) w20 t (tlN j) ∧ TI (some b7 :: []) w20 va3 (ps ++ csF cs ps) ∧ TI (some b7 :: []) w20 vp ps ∧ (j ≤ 3)) (fun (j, t) => j) (3, q1) (sC rfl (sC rfl (sC rfl (sC rfl (sC rfl (sC rfl (sC rfl sN))))))) ⟨hG, hb1, hb2, hb3, hb7, (hT1), (hI8), (hI11), lR⟩ (fun gh w20 hI => ?_)
 obtain ⟨j, t⟩ := gh
 obtain ⟨hG, hb1, hb2, hb3, hb7, hT, hI8, hI11, hj⟩ := hI
 show At _ _ [(5, .bool true), (6, .slice (some ⟨b1, 0, none⟩) 3 3), (8, va3), (10, .pointer (some ⟨b3, 0, none⟩)), (11, vp), (14, .pointer (some ⟨b7, 0, none⟩)), (15, .int .i64 ((j : Int) - 1))] _ _
 refine .seq (.seq (.region (.move rfl rfl (.geq rfl rfl rfl (.ops0 (.thenN ?_))))))
 refine At.cond (b := decide (0 ≤ ((j : Int) - 1))) rfl (fun hc3 => ?_) (fun hc3 => ?_)
 ·skip
  have hc3' := of_decide_eq_true hc3
  refine .skip (.thenN (.seq (.block ?_)))
  obtain ⟨p, rfl⟩ : ∃ p, j = p + 1 := ⟨j - 1, by have := of_decide_eq_true hc3; omega⟩
  refine .set (d := 15) (u := .int .i64 (p : Int)) rfl (congrArg (Value.int .i64) (by omega)) (.drawG (n := 12) mixed (by kernel_rfl) rfl (PanicOk.block (PanicOk.then (PanicOk.then (PanicOk.block (PanicOk.then PanicOk.body))))) ?_)
  replace hG := hG.drew
  replace hT := hT.gr (Gr.refl _ _).drew lR
  replace hI8 := hI8.gr (Gr.refl _ _).drew lR
  replace hI11 := hI11.gr (Gr.refl _ _).drew lR
  have hb1 : _ := (show w20.drew.heap[b1]? = _ from hb1)
  have hb2 : _ := (show w20.drew.heap[b2]? = _ from hb2)
  have hb3 : _ := (show w20.drew.heap[b3]? = _ from hb3)
  have hb7 : _ := (show w20.drew.heap[b7]? = _ from hb7)
  refine .wpcS (i := 0) (d := 89) (.slice (some ⟨b1, 0, none⟩) 3 3) (by kernel_rfl) rfl rfl rfl (fun Lx => .move rfl rfl (.ops0 fun a ha => ⟨ha, rfl⟩)) ?_
  refine .wpcS (i := 1) (d := 90) (.int .i64 (p : Int)) (by kernel_rfl) rfl rfl rfl (fun Lx => .move rfl rfl (.ops0 fun a ha => ⟨ha, rfl⟩)) ?_
  refine .wpcS (i := 2) (d := 91) (.pointer (some ⟨vBlock (.slice (some ⟨b1, 0, none⟩) 3 3), vOff (.slice (some ⟨b1, 0, none⟩) 3 3) + p * 1, none⟩)) (by kernel_rfl) rfl rfl rfl (fun Lx => .indexAddr (i := p) rfl rfl (slOk_lit b1 (n := 3) (by decide)) (by omega) el25 sz9 rfl (.ops0 fun a ha => ⟨ha, rfl⟩)) ?_
  refine .wpcS (i := 3) (d := 92) (.string (nmI p)) (by kernel_rfl) rfl rfl rfl (fun Lx => .load rfl (Ld.ownCell ag9 hb1 (nm_at (by omega))) rfl (.ops0 fun a ha => ⟨ha, rfl⟩)) ?_
  refine .wpcS (i := 9) (d := 98) (.agg t.cs) (by kernel_rfl) rfl rfl rfl (fun Lx => .load rfl (Ld.own ag31 (sz31.trans (congrArg some hT.1.one.size.symm)) hb7) rfl (.ops0 fun a ha => ⟨ha, rfl⟩)) ?_
  refine At.wpcE [4] (by kernel_rfl) (by kernel_rfl) (.cons [9] rfl (by kernel_rfl) ?_ .nil)
  refine At.call en19 rfl rfl (varL_any (M := (some b7 :: [])) (nc := 0) (nmI p) _ (MLt.blk hb7 (MLt.nil _))) (fun e w21 hR => ?_)
  obtain ⟨q2, rfl, hT2, hbl2⟩ := hR; refine ⟨_, rfl, ?_⟩
  replace hb1 := Below.old hbl2 hb1
  replace hb2 := Below.old hbl2 hb2
  replace hb3 := Below.old hbl2 hb3
  replace hb7 := Below.old hbl2 hb7
  replace hG := hG.below hbl2
  replace hT := hT.gr (Gr.of hbl2 _) lR
  replace hI8 := hI8.gr (Gr.of hbl2 _) lR
  replace hI11 := hI11.gr (Gr.of hbl2 _) lR
  refine .ops0 ?_
  refine At.wpcN (.cons rfl rfl rfl rfl (fun Lx => ?_) .nil) ?_
  ·skip
   exact .load rfl (Ld.own ag31 (sz31.trans (congrArg some hT.1.one.size.symm)) hb7) rfl (.ops0 fun a ha => ⟨ha, rfl⟩)
  refine At.wpcE [5] (by kernel_rfl) (by kernel_rfl) (.cons [9] rfl (by kernel_rfl) ?_ .nil)
  refine At.buildSlice (xs := [.tmp 93]) rfl rfl el22 sz31 ze31 (by intro v hv; simp only [List.mem_cons, List.not_mem_nil, or_false] at hv; rcases hv with rfl <;> first | exact hT2.1.one.size) rfl (by decide) rfl (fun b8 w22 F8 => ?_)
  have hL8 := TL.one hT2 F8 (MLt.blk hb7 (MLt.nil _))
  replace hb1 := F8.old hb1
  replace hb2 := F8.old hb2
  replace hb3 := F8.old hb3
  replace hb7 := F8.old hb7
  replace hG := hG.below F8.bel
  replace hT := hT.gr (Gr.of F8.bel _) lR
  replace hI8 := hI8.gr (Gr.of F8.bel _) lR
  replace hI11 := hI11.gr (Gr.of F8.bel _) lR
  refine .ops0 ?_
  refine At.wpcN (.cons rfl rfl rfl rfl (fun Lx => ?_) .nil) ?_
  ·skip
   exact .load rfl (Ld.own ag31 (sz31.trans (congrArg some hT.1.one.size.symm)) hb7) rfl (.ops0 fun a ha => ⟨ha, rfl⟩)
  refine At.wpcE [6] (by kernel_rfl) (by kernel_rfl) (.cons [9] rfl (by kernel_rfl) ?_ .nil)
  refine At.call en18 rfl rfl (opL_any (M := (some b7 :: [])) (nc := 0) (⟨#[33]⟩ : ByteArray) _ (MLt.blk hb7 (MLt.nil _)) hL8 rfl) (fun e w23 hR => ?_)
  obtain ⟨q3, rfl, hT3, hbl3⟩ := hR; refine ⟨_, rfl, ?_⟩
  replace hb1 := Below.old hbl3 hb1
  replace hb2 := Below.old hbl3 hb2
  replace hb3 := Below.old hbl3 hb3
  replace hb7 := Below.old hbl3 hb7
  replace hG := hG.below hbl3
  replace hT := hT.gr (Gr.of hbl3 _) lR
  replace hI8 := hI8.gr (Gr.of hbl3 _) lR
  replace hI11 := hI11.gr (Gr.of hbl3 _) lR
  refine .ops0 ?_
  refine At.wpcN (.cons rfl rfl rfl rfl (fun Lx => ?_) .nil) ?_
  ·skip
   exact .load rfl (Ld.own ag31 (sz31.trans (congrArg some hT.1.one.size.symm)) hb7) rfl (.ops0 fun a ha => ⟨ha, rfl⟩)
  refine At.wpcE [7] (by kernel_rfl) (by kernel_rfl) (.cons [9] rfl (by kernel_rfl) ?_ .nil)
  refine At.buildSlice (xs := [.tmp 95]) rfl rfl el22 sz31 ze31 (by intro v hv; simp only [List.mem_cons, List.not_mem_nil, or_false] at hv; rcases hv with rfl <;> first | exact hT3.1.one.size) rfl (by decide) rfl (fun b9 w24 F9 => ?_)
  have hL9 := TL.one hT3 F9 (MLt.blk hb7 (MLt.nil _))
  replace hb1 := F9.old hb1
  replace hb2 := F9.old hb2
  replace hb3 := F9.old hb3
  replace hb7 := F9.old hb7
  replace hG := hG.below F9.bel
  replace hT := hT.gr (Gr.of F9.bel _) lR
  replace hI8 := hI8.gr (Gr.of F9.bel _) lR
  replace hI11 := hI11.gr (Gr.of F9.bel _) lR
  refine .ops0 ?_
  refine At.wpcN (.cons rfl rfl rfl rfl (fun Lx => ?_) .nil) ?_
  ·skip
   exact .load rfl (Ld.own ag31 (sz31.trans (congrArg some hT.1.one.size.symm)) hb7) rfl (.ops0 fun a ha => ⟨ha, rfl⟩)
  refine At.wpcE [8] (by kernel_rfl) (by kernel_rfl) (.cons [9] rfl (by kernel_rfl) ?_ .nil)
  refine At.call en18 rfl rfl (opL_any (M := (some b7 :: [])) (nc := 0) (⟨#[112, 114, 105, 110, 116]⟩ : ByteArray) _ (MLt.blk hb7 (MLt.nil _)) hL9 rfl) (fun e w25 hR => ?_)
  obtain ⟨q4, rfl, hT4, hbl4⟩ := hR; refine ⟨_, rfl, ?_⟩
  replace hb1 := Below.old hbl4 hb1
  replace hb2 := Below.old hbl4 hb2
  replace hb3 := Below.old hbl4 hb3
  replace hb7 := Below.old hbl4 hb7
  replace hG := hG.below hbl4
  replace hT := hT.gr (Gr.of hbl4 _) lR
  replace hI8 := hI8.gr (Gr.of hbl4 _) lR
  replace hI11 := hI11.gr (Gr.of hbl4 _) lR
  refine .ops0 ?_
  refine At.wpcN (.cons rfl rfl rfl rfl (fun Lx => ?_) .nil) ?_
  ·skip
   exact .load rfl (Ld.own ag31 (sz31.trans (congrArg some hT.1.one.size.symm)) hb7) rfl (.ops0 fun a ha => ⟨ha, rfl⟩)
  refine At.wpcE [10] (by kernel_rfl) (by kernel_rfl) (.cons [] rfl (by kernel_rfl) ?_ .nil)
  refine At.call en17 rfl rfl (letL_any (M := (some b7 :: [])) (nc := 0) (⟨#[95]⟩ : ByteArray) _ (MLt.blk hb7 (MLt.nil _)) hT4 hT) (fun e w26 hR => ?_)
  obtain ⟨q5, rfl, hT5, hbl5⟩ := hR; refine ⟨_, rfl, ?_⟩
  replace hb1 := Below.old hbl5 hb1
  replace hb2 := Below.old hbl5 hb2
  replace hb3 := Below.old hbl5 hb3
  replace hb7 := Below.old hbl5 hb7
  replace hG := hG.below hbl5
  replace hT := hT.gr (Gr.of hbl5 _) lR
  replace hI8 := hI8.gr (Gr.of hbl5 _) lR
  replace hI11 := hI11.gr (Gr.of hbl5 _) lR
  refine .ops0 (.wpcN .nil ?_)
  refine At.wpcE [11] (by kernel_rfl) (by kernel_rfl) (.cons [] rfl (by kernel_rfl) ?_ .nil)
  refine At.storeAll rfl rfl hb7 (sz31.trans (congrArg some hT5.1.one.size.symm)) (hT.1.one.size.trans hT5.1.one.size.symm) hT5.1.one.one (fun w27 S5 => ?_)
  replace hb1 := S5.other hb1 n_b1_b7
  replace hb2 := S5.other hb2 n_b2_b7
  replace hb3 := S5.other hb3 n_b3_b7
  replace hb7 : w27.heap[b7]? = some (.cells q5.cs 31) := S5.new
  replace hG := hG.set S5 (.inr gb7)
  replace hI8 := hI8.gr ((Gr.refl _ _).set S5 (.inl (by simp))) lR
  replace hI11 := hI11.gr ((Gr.refl _ _).set S5 (.inl (by simp))) lR
  replace hT5 := hT5.gr ((Gr.refl _ _).set S5 (.inl (by simp))) lR
  refine .ops0 (.wpcN .nil (.wpcZ (.inN (.thenN (.region (.move rfl rfl (.subI rfl rfl rfl (by omega) (.assign rfl rfl (.ops0 (.thenN ?_))))))))))
  exact fun act_ hact_ => ⟨(p, q5), hact_.sub (sC rfl (sC rfl (sC rfl (sC rfl (sC rfl (sC rfl (sC rfl sN))))))), ⟨hG, hb1, hb2, hb3, hb7, (by rw [← tlN_step (p := p) (by omega)]; exact hT5), hI8, hI11, (by omega)⟩, by first | omega | (dsimp only; omega)⟩
 have hc3' := of_decide_eq_false hc3
 refine .exit (.thenE (.thenE (.inE (.thenN (.seq (.seq ?_))))))
 obtain rfl : j = 0 := by have := of_decide_eq_false hc3; omega
 refine .region (.move rfl rfl (.lenSl rfl hI11.1.ok el32 rfl (.subI rfl rfl rfl (by omega) (.assign rfl rfl (.ops0 (.thenN (.block ?_)))))))
 refine At.loop (Nat × Tm) (fun (j, t) => [(5, .bool true), (6, .slice (some ⟨b1, 0, none⟩) 3 3), (8, va3), (10, .pointer (some ⟨b3, 0, none⟩)), (11, vp), (14, .pointer (some ⟨b7, 0, none⟩)), (16, .int .i64 ((j : Int) - 1))]) (fun (j, t) w28 => Gr [] w [] w28 ∧ w28.heap[b1]? = some (.cells #[.string (⟨#[97]⟩ : ByteArray), .string (⟨#[98]⟩ : ByteArray), .string (⟨#[99]⟩ : ByteArray)] 9) ∧ w28.heap[b2]? = some (.cells (arC ds) 59) ∧ w28.heap[b3]? = some (.cells (arC cs) 59) ∧ w28.heap[b7]? = some (.cells t.cs 31) ∧ TT (some b7 :: []) w28 t (putsT (ps.drop j)) ∧ TI (some b7 :: []) w28 va3 (ps ++ csF cs ps) ∧ TI (some b7 :: []) w28 vp ps ∧ (j ≤ ps.length)) (fun (j, t) => j) (ps.length, t) (sC rfl (sC rfl (sC rfl (sC rfl (sC rfl (sC rfl (sC rfl sN))))))) ⟨hG, hb1, hb2, hb3, hb7, ((by rw [List.drop_length]; exact hT)), (hI8), (hI11), lR⟩ (fun gh w28 hI => ?_)
 obtain ⟨j, t⟩ := gh
 obtain ⟨hG, hb1, hb2, hb3, hb7, hT, hI8, hI11, hj⟩ := hI
 show At _ _ [(5, .bool true), (6, .slice (some ⟨b1, 0, none⟩) 3 3), (8, va3), (10, .pointer (some ⟨b3, 0, none⟩)), (11, vp), (14, .pointer (some ⟨b7, 0, none⟩)), (16, .int .i64 ((j : Int) - 1))] _ _
 refine .seq (.seq (.region (.move rfl rfl (.geq rfl rfl rfl (.ops0 (.thenN ?_))))))
 refine At.cond (b := decide (0 ≤ ((j : Int) - 1))) rfl (fun hc4 => ?_) (fun hc4 => ?_)
 ·skip
  have hc4' := of_decide_eq_true hc4
  refine .skip (.thenN (.seq (.block (.seq ?_))))
  obtain ⟨p, rfl⟩ : ∃ p, j = p + 1 := ⟨j - 1, by have := of_decide_eq_true hc4; omega⟩
  refine .set (d := 16) (u := .int .i64 (p : Int)) rfl (congrArg (Value.int .i64) (by omega)) (.region (.move rfl rfl (.move rfl rfl (.move rfl rfl ?_))))
  obtain ⟨u3, hu3⟩ := some_of_lt (l := ps) (i := p) (by omega)
  refine .indexAddr (i := p) rfl rfl hI11.1.ok (lt_of_some hu3) el32 sz3 rfl (.load rfl (Ld.cell ag3 (cell_keep ((hI11.1).get hu3) (Below.refl _ _))) rfl (.andI rfl rfl rfl (.remI rfl rfl (by omega) rfl ?_)))
  obtain ⟨nq2, hnq2, lnq2⟩ := and_mod u3 (k := 3) (by decide)
  refine .set (d := 113) (u := .int .i64 (nq2 : Int)) rfl (congrArg (Value.int .i64) hnq2) (.indexAddr (i := nq2) rfl rfl (slOk_lit b1 (n := 3) (by decide)) (by omega) el25 sz9 rfl (.load rfl (Ld.ownCell ag9 hb1 (nm_at (by omega))) rfl ?_))
  refine At.call en19 rfl rfl (varL_any (M := (some b7 :: [])) (nc := 0) (nmI nq2) _ (MLt.blk hb7 (MLt.nil _))) (fun e w29 hR => ?_)
  obtain ⟨q6, rfl, hT6, hbl6⟩ := hR; refine ⟨_, rfl, ?_⟩
  replace hb1 := Below.old hbl6 hb1
  replace hb2 := Below.old hbl6 hb2
  replace hb3 := Below.old hbl6 hb3
  replace hb7 := Below.old hbl6 hb7
  replace hG := hG.below hbl6
  replace hT := hT.gr (Gr.of hbl6 _) lR
  replace hI8 := hI8.gr (Gr.of hbl6 _) lR
  replace hI11 := hI11.gr (Gr.of hbl6 _) lR
  refine At.alloc ze31 rfl (fun b10 w30 F10 => ?_)
  have n_b1_b10 := F10.ne' hb1
  have n_b2_b10 := F10.ne' hb2
  have n_b3_b10 := F10.ne' hb3
  have n_b7_b10 := F10.ne' hb7
  replace hb1 := F10.old hb1
  replace hb2 := F10.old hb2
  replace hb3 := F10.old hb3
  replace hb7 := F10.old hb7
  have hb10 : w30.heap[b10]? = some (.cells #[zI, zI, zS, zS, zI, zN, zN, zI, zS, zI, zN, zN, zI, zN, zI, zI, zS, zI, zN, zN, zI] 31) := F10.new
  refine At.storeAll rfl rfl hb10 (sz31.trans (congrArg some hT6.1.one.size.symm)) hT6.1.one.size.symm hT6.1.one.one (fun w31 S6 => ?_)
  replace hb1 := S6.other hb1 n_b1_b10
  replace hb2 := S6.other hb2 n_b2_b10
  replace hb3 := S6.other hb3 n_b3_b10
  replace hb7 := S6.other hb7 n_b7_b10
  replace hb10 : w31.heap[b10]? = some (.cells q6.cs 31) := S6.new
  replace hG := hG.below (F10.bel2 S6)
  replace hT := hT.gr (Gr.of (F10.bel2 S6) _) lR
  replace hI8 := hI8.gr (Gr.of (F10.bel2 S6) _) lR
  replace hI11 := hI11.gr (Gr.of (F10.bel2 S6) _) lR
  replace hT6 := hT6.gr (Gr.of (F10.bel2 S6) _) lR
  refine .ops0 (.thenN (.drawG (n := 17) mixed (by kernel_rfl) rfl (PanicOk.block (PanicOk.then (PanicOk.then (PanicOk.block (PanicOk.then PanicOk.body))))) ?_))
  replace hG := hG.drew
  replace hT := hT.gr (Gr.refl _ _).drew lR
  replace hI8 := hI8.gr (Gr.refl _ _).drew lR
  replace hI11 := hI11.gr (Gr.refl _ _).drew lR
  replace hT6 := hT6.gr (Gr.refl _ _).drew lR
  have hb1 : _ := (show w31.drew.heap[b1]? = _ from hb1)
  have hb2 : _ := (show w31.drew.heap[b2]? = _ from hb2)
  have hb3 : _ := (show w31.drew.heap[b3]? = _ from hb3)
  have hb7 : _ := (show w31.drew.heap[b7]? = _ from hb7)
  have hb10 : _ := (show w31.drew.heap[b10]? = _ from hb10)
  refine .wpcS (i := 0) (d := 117) (.agg q6.cs) (by kernel_rfl) rfl rfl rfl (fun Lx => .load rfl (Ld.own ag31 (sz31.trans (congrArg some hT6.1.one.size.symm)) hb10) rfl (.ops0 fun a ha => ⟨ha, rfl⟩)) ?_
  refine .wpcS (i := 1) (d := 118) (vp) (by kernel_rfl) rfl rfl rfl (fun Lx => .move rfl rfl (.ops0 fun a ha => ⟨ha, rfl⟩)) ?_
  refine .wpcS (i := 2) (d := 119) (.int .i64 (p : Int)) (by kernel_rfl) rfl rfl rfl (fun Lx => .move rfl rfl (.ops0 fun a ha => ⟨ha, rfl⟩)) ?_
  refine .wpcS (i := 3) (d := 120) (.pointer (some ⟨vBlock vp, vOff vp + p * 1, none⟩)) (by kernel_rfl) rfl rfl rfl (fun Lx => .indexAddr (i := p) rfl rfl hI11.1.ok (lt_of_some hu3) el32 sz3 rfl (.ops0 fun a ha => ⟨ha, rfl⟩)) ?_
  refine .wpcS (i := 4) (d := 121) (.int .i64 u3) (by kernel_rfl) rfl rfl rfl (fun Lx => .load rfl (Ld.cell ag3 (cell_keep ((hI11.1).get hu3) (Below.refl _ _))) rfl (.ops0 fun a ha => ⟨ha, rfl⟩)) ?_
  refine .wpcS (i := 8) (d := 125) (.agg q6.cs) (by kernel_rfl) rfl rfl rfl (fun Lx => .load rfl (Ld.own ag31 (sz31.trans (congrArg some hT6.1.one.size.symm)) hb10) rfl (.ops0 fun a ha => ⟨ha, rfl⟩)) ?_
  refine .wpcS (i := 13) (d := 130) (.agg t.cs) (by kernel_rfl) rfl rfl rfl (fun Lx => .load rfl (Ld.own ag31 (sz31.trans (congrArg some hT.1.one.size.symm)) hb7) rfl (.ops0 fun a ha => ⟨ha, rfl⟩)) ?_
  refine At.wpcE [5, 9] (by kernel_rfl) (by kernel_rfl) (.cons [0, 8, 13] rfl (by kernel_rfl) ?_ (.cons [0, 1, 2, 3, 4, 13] rfl (by kernel_rfl) ?_ .nil))
  ·skip
   refine At.call en20 rfl rfl (numL_any (M := (some b7 :: [])) (nc := 0) u3 _ (MLt.blk hb7 (MLt.nil _))) (fun e w32 hR => ?_)
   obtain ⟨q7, rfl, hT7, hbl7⟩ := hR; refine ⟨_, rfl, ?_⟩
   replace hb1 := Below.old hbl7 hb1
   replace hb2 := Below.old hbl7 hb2
   replace hb3 := Below.old hbl7 hb3
   replace hb7 := Below.old hbl7 hb7
   replace hb10 := Below.old hbl7 hb10
   replace hG := hG.below hbl7
   replace hT := hT.gr (Gr.of hbl7 _) lR
   replace hI8 := hI8.gr (Gr.of hbl7 _) lR
   replace hI11 := hI11.gr (Gr.of hbl7 _) lR
   replace hT6 := hT6.gr (Gr.of hbl7 _) lR
   refine .ops0 ?_
   refine At.wpcN (.cons rfl rfl rfl rfl (fun Lx => ?_) (.cons rfl rfl rfl rfl (fun Lx => ?_) (.cons rfl rfl rfl rfl (fun Lx => ?_) .nil))) ?_
   ·skip
    exact .load rfl (Ld.own ag31 (sz31.trans (congrArg some hT6.1.one.size.symm)) hb10) rfl (.ops0 fun a ha => ⟨ha, rfl⟩)
   ·skip
    exact .load rfl (Ld.own ag31 (sz31.trans (congrArg some hT6.1.one.size.symm)) hb10) rfl (.ops0 fun a ha => ⟨ha, rfl⟩)
   ·skip
    exact .load rfl (Ld.own ag31 (sz31.trans (congrArg some hT.1.one.size.symm)) hb7) rfl (.ops0 fun a ha => ⟨ha, rfl⟩)
   refine At.wpcE [6, 9] (by kernel_rfl) (by kernel_rfl) (.cons [8, 13] rfl (by kernel_rfl) ?_ (.cons [0, 13] rfl (by kernel_rfl) ?_ .nil))
   ·skip
    refine At.buildSlice (xs := [.tmp 117, .tmp 122]) rfl rfl el22 sz31 ze31 (by intro v hv; simp only [List.mem_cons, List.not_mem_nil, or_false] at hv; rcases hv with rfl | rfl <;> first | exact hT6.1.one.size | exact hT7.1.one.size) rfl (by decide) rfl (fun b11 w33 F11 => ?_)
    have hL11 := TL.two hT6 hT7 F11 (MLt.blk hb7 (MLt.nil _))
    replace hb1 := F11.old hb1
    replace hb2 := F11.old hb2
    replace hb3 := F11.old hb3
    replace hb7 := F11.old hb7
    replace hb10 := F11.old hb10
    replace hG := hG.below F11.bel
    replace hT := hT.gr (Gr.of F11.bel _) lR
    replace hI8 := hI8.gr (Gr.of F11.bel _) lR
    replace hI11 := hI11.gr (Gr.of F11.bel _) lR
    replace hT6 := hT6.gr (Gr.of F11.bel _) lR
    refine .ops0 ?_
    refine At.wpcN (.cons rfl rfl rfl rfl (fun Lx => ?_) (.cons rfl rfl rfl rfl (fun Lx => ?_) .nil)) ?_
    ·skip
     exact .load rfl (Ld.own ag31 (sz31.trans (congrArg some hT6.1.one.size.symm)) hb10) rfl (.ops0 fun a ha => ⟨ha, rfl⟩)
    ·skip
     exact .load rfl (Ld.own ag31 (sz31.trans (congrArg some hT.1.one.size.symm)) hb7) rfl (.ops0 fun a ha => ⟨ha, rfl⟩)
    refine At.wpcE [7, 9] (by kernel_rfl) (by kernel_rfl) (.cons [8, 13] rfl (by kernel_rfl) ?_ (.cons [13] rfl (by kernel_rfl) ?_ .nil))
    ·skip
     refine At.call en18 rfl rfl (opL_any (M := (some b7 :: [])) (nc := 0) (⟨#[58, 61]⟩ : ByteArray) _ (MLt.blk hb7 (MLt.nil _)) hL11 rfl) (fun e w34 hR => ?_)
     obtain ⟨q8, rfl, hT8, hbl8⟩ := hR; refine ⟨_, rfl, ?_⟩
     replace hb1 := Below.old hbl8 hb1
     replace hb2 := Below.old hbl8 hb2
     replace hb3 := Below.old hbl8 hb3
     replace hb7 := Below.old hbl8 hb7
     replace hb10 := Below.old hbl8 hb10
     replace hG := hG.below hbl8
     replace hT := hT.gr (Gr.of hbl8 _) lR
     replace hI8 := hI8.gr (Gr.of hbl8 _) lR
     replace hI11 := hI11.gr (Gr.of hbl8 _) lR
     replace hT6 := hT6.gr (Gr.of hbl8 _) lR
     refine .ops0 ?_
     refine At.wpcN (.cons rfl rfl rfl rfl (fun Lx => ?_) (.cons rfl rfl rfl rfl (fun Lx => ?_) .nil)) ?_
     ·skip
      exact .load rfl (Ld.own ag31 (sz31.trans (congrArg some hT6.1.one.size.symm)) hb10) rfl (.ops0 fun a ha => ⟨ha, rfl⟩)
     ·skip
      exact .load rfl (Ld.own ag31 (sz31.trans (congrArg some hT.1.one.size.symm)) hb7) rfl (.ops0 fun a ha => ⟨ha, rfl⟩)
     refine At.wpcE [9] (by kernel_rfl) (by kernel_rfl) (.cons [13] rfl (by kernel_rfl) ?_ .nil)
     refine At.buildSlice (xs := [.tmp 125]) rfl rfl el22 sz31 ze31 (by intro v hv; simp only [List.mem_cons, List.not_mem_nil, or_false] at hv; rcases hv with rfl <;> first | exact hT6.1.one.size) rfl (by decide) rfl (fun b12 w35 F12 => ?_)
     have hL12 := TL.one hT6 F12 (MLt.blk hb7 (MLt.nil _))
     replace hb1 := F12.old hb1
     replace hb2 := F12.old hb2
     replace hb3 := F12.old hb3
     replace hb7 := F12.old hb7
     replace hG := hG.below F12.bel
     replace hT := hT.gr (Gr.of F12.bel _) lR
     replace hI8 := hI8.gr (Gr.of F12.bel _) lR
     replace hI11 := hI11.gr (Gr.of F12.bel _) lR
     replace hT8 := hT8.gr (Gr.of F12.bel _) lR
     refine .ops0 ?_
     refine At.wpcN (.cons rfl rfl rfl rfl (fun Lx => ?_) .nil) ?_
     ·skip
      exact .load rfl (Ld.own ag31 (sz31.trans (congrArg some hT.1.one.size.symm)) hb7) rfl (.ops0 fun a ha => ⟨ha, rfl⟩)
     refine At.wpcE [10] (by kernel_rfl) (by kernel_rfl) (.cons [13] rfl (by kernel_rfl) ?_ .nil)
     refine At.call en18 rfl rfl (opL_any (M := (some b7 :: [])) (nc := 0) (⟨#[33]⟩ : ByteArray) _ (MLt.blk hb7 (MLt.nil _)) hL12 rfl) (fun e w36 hR => ?_)
     obtain ⟨q9, rfl, hT9, hbl9⟩ := hR; refine ⟨_, rfl, ?_⟩
     replace hb1 := Below.old hbl9 hb1
     replace hb2 := Below.old hbl9 hb2
     replace hb3 := Below.old hbl9 hb3
     replace hb7 := Below.old hbl9 hb7
     replace hG := hG.below hbl9
     replace hT := hT.gr (Gr.of hbl9 _) lR
     replace hI8 := hI8.gr (Gr.of hbl9 _) lR
     replace hI11 := hI11.gr (Gr.of hbl9 _) lR
     replace hT8 := hT8.gr (Gr.of hbl9 _) lR
     refine .ops0 ?_
     refine At.wpcN (.cons rfl rfl rfl rfl (fun Lx => ?_) .nil) ?_
     ·skip
      exact .load rfl (Ld.own ag31 (sz31.trans (congrArg some hT.1.one.size.symm)) hb7) rfl (.ops0 fun a ha => ⟨ha, rfl⟩)
     refine At.wpcE [11] (by kernel_rfl) (by kernel_rfl) (.cons [13] rfl (by kernel_rfl) ?_ .nil)
     refine At.buildSlice (xs := [.tmp 127]) rfl rfl el22 sz31 ze31 (by intro v hv; simp only [List.mem_cons, List.not_mem_nil, or_false] at hv; rcases hv with rfl <;> first | exact hT9.1.one.size) rfl (by decide) rfl (fun b13 w37 F13 => ?_)
     have hL13 := TL.one hT9 F13 (MLt.blk hb7 (MLt.nil _))
     replace hb1 := F13.old hb1
     replace hb2 := F13.old hb2
     replace hb3 := F13.old hb3
     replace hb7 := F13.old hb7
     replace hG := hG.below F13.bel
     replace hT := hT.gr (Gr.of F13.bel _) lR
     replace hI8 := hI8.gr (Gr.of F13.bel _) lR
     replace hI11 := hI11.gr (Gr.of F13.bel _) lR
     replace hT8 := hT8.gr (Gr.of F13.bel _) lR
     refine .ops0 ?_
     refine At.wpcN (.cons rfl rfl rfl rfl (fun Lx => ?_) .nil) ?_
     ·skip
      exact .load rfl (Ld.own ag31 (sz31.trans (congrArg some hT.1.one.size.symm)) hb7) rfl (.ops0 fun a ha => ⟨ha, rfl⟩)
     refine At.wpcE [12] (by kernel_rfl) (by kernel_rfl) (.cons [13] rfl (by kernel_rfl) ?_ .nil)
     refine At.call en18 rfl rfl (opL_any (M := (some b7 :: [])) (nc := 0) (⟨#[112, 114, 105, 110, 116]⟩ : ByteArray) _ (MLt.blk hb7 (MLt.nil _)) hL13 rfl) (fun e w38 hR => ?_)
     obtain ⟨q10, rfl, hT10, hbl10⟩ := hR; refine ⟨_, rfl, ?_⟩
     replace hb1 := Below.old hbl10 hb1
     replace hb2 := Below.old hbl10 hb2
     replace hb3 := Below.old hbl10 hb3
     replace hb7 := Below.old hbl10 hb7
     replace hG := hG.below hbl10
     replace hT := hT.gr (Gr.of hbl10 _) lR
     replace hI8 := hI8.gr (Gr.of hbl10 _) lR
     replace hI11 := hI11.gr (Gr.of hbl10 _) lR
     replace hT8 := hT8.gr (Gr.of hbl10 _) lR
     refine .ops0 ?_
     refine At.wpcN (.cons rfl rfl rfl rfl (fun Lx => ?_) .nil) ?_
     ·skip
      exact .load rfl (Ld.own ag31 (sz31.trans (congrArg some hT.1.one.size.symm)) hb7) rfl (.ops0 fun a ha => ⟨ha, rfl⟩)
     refine At.wpcE [14] (by kernel_rfl) (by kernel_rfl) (.cons [] rfl (by kernel_rfl) ?_ .nil)
     refine At.call en17 rfl rfl (letL_any (M := (some b7 :: [])) (nc := 0) (⟨#[95]⟩ : ByteArray) _ (MLt.blk hb7 (MLt.nil _)) hT10 hT) (fun e w39 hR => ?_)
     obtain ⟨q11, rfl, hT11, hbl11⟩ := hR; refine ⟨_, rfl, ?_⟩
     replace hb1 := Below.old hbl11 hb1
     replace hb2 := Below.old hbl11 hb2
     replace hb3 := Below.old hbl11 hb3
     replace hb7 := Below.old hbl11 hb7
     replace hG := hG.below hbl11
     replace hT := hT.gr (Gr.of hbl11 _) lR
     replace hI8 := hI8.gr (Gr.of hbl11 _) lR
     replace hI11 := hI11.gr (Gr.of hbl11 _) lR
     replace hT8 := hT8.gr (Gr.of hbl11 _) lR
     refine .ops0 (.wpcN .nil ?_)
     refine At.wpcE [15] (by kernel_rfl) (by kernel_rfl) (.cons [] rfl (by kernel_rfl) ?_ .nil)
     refine At.call en17 rfl rfl (letL_any (M := (some b7 :: [])) (nc := 0) (⟨#[95]⟩ : ByteArray) _ (MLt.blk hb7 (MLt.nil _)) hT8 hT11) (fun e w40 hR => ?_)
     obtain ⟨q12, rfl, hT12, hbl12⟩ := hR; refine ⟨_, rfl, ?_⟩
     replace hb1 := Below.old hbl12 hb1
     replace hb2 := Below.old hbl12 hb2
     replace hb3 := Below.old hbl12 hb3
     replace hb7 := Below.old hbl12 hb7
     replace hG := hG.below hbl12
     replace hT := hT.gr (Gr.of hbl12 _) lR
     replace hI8 := hI8.gr (Gr.of hbl12 _) lR
     replace hI11 := hI11.gr (Gr.of hbl12 _) lR
     refine .ops0 (.wpcN .nil ?_)
     refine At.wpcE [16] (by kernel_rfl) (by kernel_rfl) (.cons [] rfl (by kernel_rfl) ?_ .nil)
     refine At.storeAll rfl rfl hb7 (sz31.trans (congrArg some hT12.1.one.size.symm)) (hT.1.one.size.trans hT12.1.one.size.symm) hT12.1.one.one (fun w41 S7 => ?_)
     replace hb1 := S7.other hb1 n_b1_b7
     replace hb2 := S7.other hb2 n_b2_b7
     replace hb3 := S7.other hb3 n_b3_b7
     replace hb7 : w41.heap[b7]? = some (.cells q12.cs 31) := S7.new
     replace hG := hG.set S7 (.inr gb7)
     replace hI8 := hI8.gr ((Gr.refl _ _).set S7 (.inl (by simp))) lR
     replace hI11 := hI11.gr ((Gr.refl _ _).set S7 (.inl (by simp))) lR
     replace hT12 := hT12.gr ((Gr.refl _ _).set S7 (.inl (by simp))) lR
     refine .ops0 (.wpcN .nil (.wpcZ (.inN (.thenN (.region (.move rfl rfl (.subI rfl rfl rfl (by omega) (.assign rfl rfl (.ops0 (.thenN ?_))))))))))
     exact fun act_ hact_ => ⟨(p, q12), hact_.sub (sC rfl (sC rfl (sC rfl (sC rfl (sC rfl (sC rfl (sC rfl sN))))))), ⟨hG, hb1, hb2, hb3, hb7, (by rw [← puts_step hu3]; unfold putT; rw [idx_is hnq2]; exact hT12), hI8, hI11, (by omega)⟩, by first | omega | (dsimp only; omega)⟩
    refine At.buildSlice (xs := [.tmp 125]) rfl rfl el22 sz31 ze31 (by intro v hv; simp only [List.mem_cons, List.not_mem_nil, or_false] at hv; rcases hv with rfl <;> first | exact hT6.1.one.size) rfl (by decide) rfl (fun b14 w42 F14 => ?_)
    have hL14 := TL.one hT6 F14 (MLt.blk hb7 (MLt.nil _))
    replace hb1 := F14.old hb1
    replace hb2 := F14.old hb2
    replace hb3 := F14.old hb3
    replace hb7 := F14.old hb7
    replace hG := hG.below F14.bel
    replace hT := hT.gr (Gr.of F14.bel _) lR
    replace hI8 := hI8.gr (Gr.of F14.bel _) lR
    replace hI11 := hI11.gr (Gr.of F14.bel _) lR
    replace hL11 := hL11.gr (Gr.of F14.bel _) lR
    refine .ops0 ?_
    refine At.wpcN (.cons rfl rfl rfl rfl (fun Lx => ?_) .nil) ?_
    ·skip
     exact .load rfl (Ld.own ag31 (sz31.trans (congrArg some hT.1.one.size.symm)) hb7) rfl (.ops0 fun a ha => ⟨ha, rfl⟩)
    refine At.wpcE [7] (by kernel_rfl) (by kernel_rfl) (.cons [13] rfl (by kernel_rfl) ?_ .nil)
    refine At.call en18 rfl rfl (opL_any (M := (some b7 :: [])) (nc := 0) (⟨#[58, 61]⟩ : ByteArray) _ (MLt.blk hb7 (MLt.nil _)) hL11 rfl) (fun e w43 hR => ?_)
    obtain ⟨q13, rfl, hT13, hbl13⟩ := hR; refine ⟨_, rfl, ?_⟩
    replace hb1 := Below.old hbl13 hb1
    replace hb2 := Below.old hbl13 hb2
    replace hb3 := Below.old hbl13 hb3
    replace hb7 := Below.old hbl13 hb7
    replace hG := hG.below hbl13
    replace hT := hT.gr (Gr.of hbl13 _) lR
    replace hI8 := hI8.gr (Gr.of hbl13 _) lR
    replace hI11 := hI11.gr (Gr.of hbl13 _) lR
    replace hL14 := hL14.gr (Gr.of hbl13 _) lR
    refine .ops0 ?_
    refine At.wpcN (.cons rfl rfl rfl rfl (fun Lx => ?_) .nil) ?_
    ·skip
     exact .load rfl (Ld.own ag31 (sz31.trans (congrArg some hT.1.one.size.symm)) hb7) rfl (.ops0 fun a ha => ⟨ha, rfl⟩)
    refine At.wpcE [10] (by kernel_rfl) (by kernel_rfl) (.cons [13] rfl (by kernel_rfl) ?_ .nil)
    refine At.call en18 rfl rfl (opL_any (M := (some b7 :: [])) (nc := 0) (⟨#[33]⟩ : ByteArray) _ (MLt.blk hb7 (MLt.nil _)) hL14 rfl) (fun e w44 hR => ?_)
    obtain ⟨q14, rfl, hT14, hbl14⟩ := hR; refine ⟨_, rfl, ?_⟩
    replace hb1 := Below.old hbl14 hb1
    replace hb2 := Below.old hbl14 hb2
    replace hb3 := Below.old hbl14 hb3
    replace hb7 := Below.old hbl14 hb7
    replace hG := hG.below hbl14
    replace hT := hT.gr (Gr.of hbl14 _) lR
    replace hI8 := hI8.gr (Gr.of hbl14 _) lR
    replace hI11 := hI11.gr (Gr.of hbl14 _) lR
    replace hT13 := hT13.gr (Gr.of hbl14 _) lR
    refine .ops0 ?_
    refine At.wpcN (.cons rfl rfl rfl rfl (fun Lx => ?_) .nil) ?_
    ·skip
     exact .load rfl (Ld.own ag31 (sz31.trans (congrArg some hT.1.one.size.symm)) hb7) rfl (.ops0 fun a ha => ⟨ha, rfl⟩)
    refine At.wpcE [11] (by kernel_rfl) (by kernel_rfl) (.cons [13] rfl (by kernel_rfl) ?_ .nil)
    refine At.buildSlice (xs := [.tmp 127]) rfl rfl el22 sz31 ze31 (by intro v hv; simp only [List.mem_cons, List.not_mem_nil, or_false] at hv; rcases hv with rfl <;> first | exact hT14.1.one.size) rfl (by decide) rfl (fun b15 w45 F15 => ?_)
    have hL15 := TL.one hT14 F15 (MLt.blk hb7 (MLt.nil _))
    replace hb1 := F15.old hb1
    replace hb2 := F15.old hb2
    replace hb3 := F15.old hb3
    replace hb7 := F15.old hb7
    replace hG := hG.below F15.bel
    replace hT := hT.gr (Gr.of F15.bel _) lR
    replace hI8 := hI8.gr (Gr.of F15.bel _) lR
    replace hI11 := hI11.gr (Gr.of F15.bel _) lR
    replace hT13 := hT13.gr (Gr.of F15.bel _) lR
    refine .ops0 ?_
    refine At.wpcN (.cons rfl rfl rfl rfl (fun Lx => ?_) .nil) ?_
    ·skip
     exact .load rfl (Ld.own ag31 (sz31.trans (congrArg some hT.1.one.size.symm)) hb7) rfl (.ops0 fun a ha => ⟨ha, rfl⟩)
    refine At.wpcE [12] (by kernel_rfl) (by kernel_rfl) (.cons [13] rfl (by kernel_rfl) ?_ .nil)
    refine At.call en18 rfl rfl (opL_any (M := (some b7 :: [])) (nc := 0) (⟨#[112, 114, 105, 110, 116]⟩ : ByteArray) _ (MLt.blk hb7 (MLt.nil _)) hL15 rfl) (fun e w46 hR => ?_)
    obtain ⟨q15, rfl, hT15, hbl15⟩ := hR; refine ⟨_, rfl, ?_⟩
    replace hb1 := Below.old hbl15 hb1
    replace hb2 := Below.old hbl15 hb2
    replace hb3 := Below.old hbl15 hb3
    replace hb7 := Below.old hbl15 hb7
    replace hG := hG.below hbl15
    replace hT := hT.gr (Gr.of hbl15 _) lR
    replace hI8 := hI8.gr (Gr.of hbl15 _) lR
    replace hI11 := hI11.gr (Gr.of hbl15 _) lR
    replace hT13 := hT13.gr (Gr.of hbl15 _) lR
    refine .ops0 ?_
    refine At.wpcN (.cons rfl rfl rfl rfl (fun Lx => ?_) .nil) ?_
    ·skip
     exact .load rfl (Ld.own ag31 (sz31.trans (congrArg some hT.1.one.size.symm)) hb7) rfl (.ops0 fun a ha => ⟨ha, rfl⟩)
    refine At.wpcE [14] (by kernel_rfl) (by kernel_rfl) (.cons [] rfl (by kernel_rfl) ?_ .nil)
    refine At.call en17 rfl rfl (letL_any (M := (some b7 :: [])) (nc := 0) (⟨#[95]⟩ : ByteArray) _ (MLt.blk hb7 (MLt.nil _)) hT15 hT) (fun e w47 hR => ?_)
    obtain ⟨q16, rfl, hT16, hbl16⟩ := hR; refine ⟨_, rfl, ?_⟩
    replace hb1 := Below.old hbl16 hb1
    replace hb2 := Below.old hbl16 hb2
    replace hb3 := Below.old hbl16 hb3
    replace hb7 := Below.old hbl16 hb7
    replace hG := hG.below hbl16
    replace hT := hT.gr (Gr.of hbl16 _) lR
    replace hI8 := hI8.gr (Gr.of hbl16 _) lR
    replace hI11 := hI11.gr (Gr.of hbl16 _) lR
    replace hT13 := hT13.gr (Gr.of hbl16 _) lR
    refine .ops0 (.wpcN .nil ?_)
    refine At.wpcE [15] (by kernel_rfl) (by kernel_rfl) (.cons [] rfl (by kernel_rfl) ?_ .nil)
    refine At.call en17 rfl rfl (letL_any (M := (some b7 :: [])) (nc := 0) (⟨#[95]⟩ : ByteArray) _ (MLt.blk hb7 (MLt.nil _)) hT13 hT16) (fun e w48 hR => ?_)
    obtain ⟨q17, rfl, hT17, hbl17⟩ := hR; refine ⟨_, rfl, ?_⟩
    replace hb1 := Below.old hbl17 hb1
    replace hb2 := Below.old hbl17 hb2
    replace hb3 := Below.old hbl17 hb3
    replace hb7 := Below.old hbl17 hb7
    replace hG := hG.below hbl17
    replace hT := hT.gr (Gr.of hbl17 _) lR
    replace hI8 := hI8.gr (Gr.of hbl17 _) lR
    replace hI11 := hI11.gr (Gr.of hbl17 _) lR
    refine .ops0 (.wpcN .nil ?_)
    refine At.wpcE [16] (by kernel_rfl) (by kernel_rfl) (.cons [] rfl (by kernel_rfl) ?_ .nil)
    refine At.storeAll rfl rfl hb7 (sz31.trans (congrArg some hT17.1.one.size.symm)) (hT.1.one.size.trans hT17.1.one.size.symm) hT17.1.one.one (fun w49 S8 => ?_)
    replace hb1 := S8.other hb1 n_b1_b7
    replace hb2 := S8.other hb2 n_b2_b7
    replace hb3 := S8.other hb3 n_b3_b7
    replace hb7 : w49.heap[b7]? = some (.cells q17.cs 31) := S8.new
    replace hG := hG.set S8 (.inr gb7)
    replace hI8 := hI8.gr ((Gr.refl _ _).set S8 (.inl (by simp))) lR
    replace hI11 := hI11.gr ((Gr.refl _ _).set S8 (.inl (by simp))) lR
    replace hT17 := hT17.gr ((Gr.refl _ _).set S8 (.inl (by simp))) lR
    refine .ops0 (.wpcN .nil (.wpcZ (.inN (.thenN (.region (.move rfl rfl (.subI rfl rfl rfl (by omega) (.assign rfl rfl (.ops0 (.thenN ?_))))))))))
    exact fun act_ hact_ => ⟨(p, q17), hact_.sub (sC rfl (sC rfl (sC rfl (sC rfl (sC rfl (sC rfl (sC rfl sN))))))), ⟨hG, hb1, hb2, hb3, hb7, (by rw [← puts_step hu3]; unfold putT; rw [idx_is hnq2]; exact hT17), hI8, hI11, (by omega)⟩, by first | omega | (dsimp only; omega)⟩
   refine At.buildSlice (xs := [.tmp 125]) rfl rfl el22 sz31 ze31 (by intro v hv; simp only [List.mem_cons, List.not_mem_nil, or_false] at hv; rcases hv with rfl <;> first | exact hT6.1.one.size) rfl (by decide) rfl (fun b16 w50 F16 => ?_)
   have hL16 := TL.one hT6 F16 (MLt.blk hb7 (MLt.nil _))
   replace hb1 := F16.old hb1
   replace hb2 := F16.old hb2
   replace hb3 := F16.old hb3
   replace hb7 := F16.old hb7
   replace hb10 := F16.old hb10
   replace hG := hG.below F16.bel
   replace hT := hT.gr (Gr.of F16.bel _) lR
   replace hI8 := hI8.gr (Gr.of F16.bel _) lR
   replace hI11 := hI11.gr (Gr.of F16.bel _) lR
   replace hT6 := hT6.gr (Gr.of F16.bel _) lR
   replace hT7 := hT7.gr (Gr.of F16.bel _) lR
   refine .ops0 ?_
   refine At.wpcN (.cons rfl rfl rfl rfl (fun Lx => ?_) (.cons rfl rfl rfl rfl (fun Lx => ?_) .nil)) ?_
   ·skip
    exact .load rfl (Ld.own ag31 (sz31.trans (congrArg some hT6.1.one.size.symm)) hb10) rfl (.ops0 fun a ha => ⟨ha, rfl⟩)
   ·skip
    exact .load rfl (Ld.own ag31 (sz31.trans (congrArg some hT.1.one.size.symm)) hb7) rfl (.ops0 fun a ha => ⟨ha, rfl⟩)
   refine At.wpcE [6] (by kernel_rfl) (by kernel_rfl) (.cons [13] rfl (by kernel_rfl) ?_ .nil)
   refine At.buildSlice (xs := [.tmp 117, .tmp 122]) rfl rfl el22 sz31 ze31 (by intro v hv; simp only [List.mem_cons, List.not_mem_nil, or_false] at hv; rcases hv with rfl | rfl <;> first | exact hT6.1.one.size | exact hT7.1.one.size) rfl (by decide) rfl (fun b17 w51 F17 => ?_)
   have hL17 := TL.two hT6 hT7 F17 (MLt.blk hb7 (MLt.nil _))
   replace hb1 := F17.old hb1
   replace hb2 := F17.old hb2
   replace hb3 := F17.old hb3
   replace hb7 := F17.old hb7
   replace hG := hG.below F17.bel
   replace hT := hT.gr (Gr.of F17.bel _) lR
   replace hI8 := hI8.gr (Gr.of F17.bel _) lR
   replace hI11 := hI11.gr (Gr.of F17.bel _) lR
   replace hL16 := hL16.gr (Gr.of F17.bel _) lR
   refine .ops0 ?_
   refine At.wpcN (.cons rfl rfl rfl rfl (fun Lx => ?_) .nil) ?_
   ·skip
    exact .load rfl (Ld.own ag31 (sz31.trans (congrArg some hT.1.one.size.symm)) hb7) rfl (.ops0 fun a ha => ⟨ha, rfl⟩)
   refine At.wpcE [7] (by kernel_rfl) (by kernel_rfl) (.cons [13] rfl (by kernel_rfl) ?_ .nil)
   refine At.call en18 rfl rfl (opL_any (M := (some b7 :: [])) (nc := 0) (⟨#[58, 61]⟩ : ByteArray) _ (MLt.blk hb7 (MLt.nil _)) hL17 rfl) (fun e w52 hR => ?_)
   obtain ⟨q18, rfl, hT18, hbl18⟩ := hR; refine ⟨_, rfl, ?_⟩
   replace hb1 := Below.old hbl18 hb1
   replace hb2 := Below.old hbl18 hb2
   replace hb3 := Below.old hbl18 hb3
   replace hb7 := Below.old hbl18 hb7
   replace hG := hG.below hbl18
   replace hT := hT.gr (Gr.of hbl18 _) lR
   replace hI8 := hI8.gr (Gr.of hbl18 _) lR
   replace hI11 := hI11.gr (Gr.of hbl18 _) lR
   replace hL16 := hL16.gr (Gr.of hbl18 _) lR
   refine .ops0 ?_
   refine At.wpcN (.cons rfl rfl rfl rfl (fun Lx => ?_) .nil) ?_
   ·skip
    exact .load rfl (Ld.own ag31 (sz31.trans (congrArg some hT.1.one.size.symm)) hb7) rfl (.ops0 fun a ha => ⟨ha, rfl⟩)
   refine At.wpcE [10] (by kernel_rfl) (by kernel_rfl) (.cons [13] rfl (by kernel_rfl) ?_ .nil)
   refine At.call en18 rfl rfl (opL_any (M := (some b7 :: [])) (nc := 0) (⟨#[33]⟩ : ByteArray) _ (MLt.blk hb7 (MLt.nil _)) hL16 rfl) (fun e w53 hR => ?_)
   obtain ⟨q19, rfl, hT19, hbl19⟩ := hR; refine ⟨_, rfl, ?_⟩
   replace hb1 := Below.old hbl19 hb1
   replace hb2 := Below.old hbl19 hb2
   replace hb3 := Below.old hbl19 hb3
   replace hb7 := Below.old hbl19 hb7
   replace hG := hG.below hbl19
   replace hT := hT.gr (Gr.of hbl19 _) lR
   replace hI8 := hI8.gr (Gr.of hbl19 _) lR
   replace hI11 := hI11.gr (Gr.of hbl19 _) lR
   replace hT18 := hT18.gr (Gr.of hbl19 _) lR
   refine .ops0 ?_
   refine At.wpcN (.cons rfl rfl rfl rfl (fun Lx => ?_) .nil) ?_
   ·skip
    exact .load rfl (Ld.own ag31 (sz31.trans (congrArg some hT.1.one.size.symm)) hb7) rfl (.ops0 fun a ha => ⟨ha, rfl⟩)
   refine At.wpcE [11] (by kernel_rfl) (by kernel_rfl) (.cons [13] rfl (by kernel_rfl) ?_ .nil)
   refine At.buildSlice (xs := [.tmp 127]) rfl rfl el22 sz31 ze31 (by intro v hv; simp only [List.mem_cons, List.not_mem_nil, or_false] at hv; rcases hv with rfl <;> first | exact hT19.1.one.size) rfl (by decide) rfl (fun b18 w54 F18 => ?_)
   have hL18 := TL.one hT19 F18 (MLt.blk hb7 (MLt.nil _))
   replace hb1 := F18.old hb1
   replace hb2 := F18.old hb2
   replace hb3 := F18.old hb3
   replace hb7 := F18.old hb7
   replace hG := hG.below F18.bel
   replace hT := hT.gr (Gr.of F18.bel _) lR
   replace hI8 := hI8.gr (Gr.of F18.bel _) lR
   replace hI11 := hI11.gr (Gr.of F18.bel _) lR
   replace hT18 := hT18.gr (Gr.of F18.bel _) lR
   refine .ops0 ?_
   refine At.wpcN (.cons rfl rfl rfl rfl (fun Lx => ?_) .nil) ?_
   ·skip
    exact .load rfl (Ld.own ag31 (sz31.trans (congrArg some hT.1.one.size.symm)) hb7) rfl (.ops0 fun a ha => ⟨ha, rfl⟩)
   refine At.wpcE [12] (by kernel_rfl) (by kernel_rfl) (.cons [13] rfl (by kernel_rfl) ?_ .nil)
   refine At.call en18 rfl rfl (opL_any (M := (some b7 :: [])) (nc := 0) (⟨#[112, 114, 105, 110, 116]⟩ : ByteArray) _ (MLt.blk hb7 (MLt.nil _)) hL18 rfl) (fun e w55 hR => ?_)
   obtain ⟨q20, rfl, hT20, hbl20⟩ := hR; refine ⟨_, rfl, ?_⟩
   replace hb1 := Below.old hbl20 hb1
   replace hb2 := Below.old hbl20 hb2
   replace hb3 := Below.old hbl20 hb3
   replace hb7 := Below.old hbl20 hb7
   replace hG := hG.below hbl20
   replace hT := hT.gr (Gr.of hbl20 _) lR
   replace hI8 := hI8.gr (Gr.of hbl20 _) lR
   replace hI11 := hI11.gr (Gr.of hbl20 _) lR
   replace hT18 := hT18.gr (Gr.of hbl20 _) lR
   refine .ops0 ?_
   refine At.wpcN (.cons rfl rfl rfl rfl (fun Lx => ?_) .nil) ?_
   ·skip
    exact .load rfl (Ld.own ag31 (sz31.trans (congrArg some hT.1.one.size.symm)) hb7) rfl (.ops0 fun a ha => ⟨ha, rfl⟩)
   refine At.wpcE [14] (by kernel_rfl) (by kernel_rfl) (.cons [] rfl (by kernel_rfl) ?_ .nil)
   refine At.call en17 rfl rfl (letL_any (M := (some b7 :: [])) (nc := 0) (⟨#[95]⟩ : ByteArray) _ (MLt.blk hb7 (MLt.nil _)) hT20 hT) (fun e w56 hR => ?_)
   obtain ⟨q21, rfl, hT21, hbl21⟩ := hR; refine ⟨_, rfl, ?_⟩
   replace hb1 := Below.old hbl21 hb1
   replace hb2 := Below.old hbl21 hb2
   replace hb3 := Below.old hbl21 hb3
   replace hb7 := Below.old hbl21 hb7
   replace hG := hG.below hbl21
   replace hT := hT.gr (Gr.of hbl21 _) lR
   replace hI8 := hI8.gr (Gr.of hbl21 _) lR
   replace hI11 := hI11.gr (Gr.of hbl21 _) lR
   replace hT18 := hT18.gr (Gr.of hbl21 _) lR
   refine .ops0 (.wpcN .nil ?_)
   refine At.wpcE [15] (by kernel_rfl) (by kernel_rfl) (.cons [] rfl (by kernel_rfl) ?_ .nil)
   refine At.call en17 rfl rfl (letL_any (M := (some b7 :: [])) (nc := 0) (⟨#[95]⟩ : ByteArray) _ (MLt.blk hb7 (MLt.nil _)) hT18 hT21) (fun e w57 hR => ?_)
   obtain ⟨q22, rfl, hT22, hbl22⟩ := hR; refine ⟨_, rfl, ?_⟩
   replace hb1 := Below.old hbl22 hb1
   replace hb2 := Below.old hbl22 hb2
   replace hb3 := Below.old hbl22 hb3
   replace hb7 := Below.old hbl22 hb7
   replace hG := hG.below hbl22
   replace hT := hT.gr (Gr.of hbl22 _) lR
   replace hI8 := hI8.gr (Gr.of hbl22 _) lR
   replace hI11 := hI11.gr (Gr.of hbl22 _) lR
   refine .ops0 (.wpcN .nil ?_)
   refine At.wpcE [16] (by kernel_rfl) (by kernel_rfl) (.cons [] rfl (by kernel_rfl) ?_ .nil)
   refine At.storeAll rfl rfl hb7 (sz31.trans (congrArg some hT22.1.one.size.symm)) (hT.1.one.size.trans hT22.1.one.size.symm) hT22.1.one.one (fun w58 S9 => ?_)
   replace hb1 := S9.other hb1 n_b1_b7
   replace hb2 := S9.other hb2 n_b2_b7
   replace hb3 := S9.other hb3 n_b3_b7
   replace hb7 : w58.heap[b7]? = some (.cells q22.cs 31) := S9.new
   replace hG := hG.set S9 (.inr gb7)
   replace hI8 := hI8.gr ((Gr.refl _ _).set S9 (.inl (by simp))) lR
   replace hI11 := hI11.gr ((Gr.refl _ _).set S9 (.inl (by simp))) lR
   replace hT22 := hT22.gr ((Gr.refl _ _).set S9 (.inl (by simp))) lR
   refine .ops0 (.wpcN .nil (.wpcZ (.inN (.thenN (.region (.move rfl rfl (.subI rfl rfl rfl (by omega) (.assign rfl rfl (.ops0 (.thenN ?_))))))))))
   exact fun act_ hact_ => ⟨(p, q22), hact_.sub (sC rfl (sC rfl (sC rfl (sC rfl (sC rfl (sC rfl (sC rfl sN))))))), ⟨hG, hb1, hb2, hb3, hb7, (by rw [← puts_step hu3]; unfold putT; rw [idx_is hnq2]; exact hT22), hI8, hI11, (by omega)⟩, by first | omega | (dsimp only; omega)⟩
  refine At.buildSlice (xs := [.tmp 125]) rfl rfl el22 sz31 ze31 (by intro v hv; simp only [List.mem_cons, List.not_mem_nil, or_false] at hv; rcases hv with rfl <;> first | exact hT6.1.one.size) rfl (by decide) rfl (fun b19 w59 F19 => ?_)
  have hL19 := TL.one hT6 F19 (MLt.blk hb7 (MLt.nil _))
  replace hb1 := F19.old hb1
  replace hb2 := F19.old hb2
  replace hb3 := F19.old hb3
  replace hb7 := F19.old hb7
  replace hb10 := F19.old hb10
  replace hG := hG.below F19.bel
  replace hT := hT.gr (Gr.of F19.bel _) lR
  replace hI8 := hI8.gr (Gr.of F19.bel _) lR
  replace hI11 := hI11.gr (Gr.of F19.bel _) lR
  replace hT6 := hT6.gr (Gr.of F19.bel _) lR
  refine .ops0 ?_
  refine At.wpcN (.cons rfl rfl rfl rfl (fun Lx => ?_) (.cons rfl rfl rfl rfl (fun Lx => ?_) (.cons rfl rfl rfl rfl (fun Lx => ?_) (.cons rfl rfl rfl rfl (fun Lx => ?_) (.cons rfl rfl rfl rfl (fun Lx => ?_) (.cons rfl rfl rfl rfl (fun Lx => ?_) .nil)))))) ?_
  ·skip
   exact .load rfl (Ld.own ag31 (sz31.trans (congrArg some hT6.1.one.size.symm)) hb10) rfl (.ops0 fun a ha => ⟨ha, rfl⟩)
  ·skip
   exact .move rfl rfl (.ops0 fun a ha => ⟨ha, rfl⟩)
  ·skip
   exact .move rfl rfl (.ops0 fun a ha => ⟨ha, rfl⟩)
  ·skip
   exact .indexAddr (i := p) rfl rfl hI11.1.ok (lt_of_some hu3) el32 sz3 rfl (.ops0 fun a ha => ⟨ha, rfl⟩)
  ·skip
   exact .load rfl (Ld.cell ag3 (cell_keep ((hI11.1).get hu3) (Below.refl _ _))) rfl (.ops0 fun a ha => ⟨ha, rfl⟩)
  ·skip
   exact .load rfl (Ld.own ag31 (sz31.trans (congrArg some hT.1.one.size.symm)) hb7) rfl (.ops0 fun a ha => ⟨ha, rfl⟩)
  refine At.wpcE [5] (by kernel_rfl) (by kernel_rfl) (.cons [0, 13] rfl (by kernel_rfl) ?_ .nil)
  refine At.call en20 rfl rfl (numL_any (M := (some b7 :: [])) (nc := 0) u3 _ (MLt.blk hb7 (MLt.nil _))) (fun e w60 hR => ?_)
  obtain ⟨q23, rfl, hT23, hbl23⟩ := hR; refine ⟨_, rfl, ?_⟩
  replace hb1 := Below.old hbl23 hb1
  replace hb2 := Below.old hbl23 hb2
  replace hb3 := Below.old hbl23 hb3
  replace hb7 := Below.old hbl23 hb7
  replace hb10 := Below.old hbl23 hb10
  replace hG := hG.below hbl23
  replace hT := hT.gr (Gr.of hbl23 _) lR
  replace hI8 := hI8.gr (Gr.of hbl23 _) lR
  replace hI11 := hI11.gr (Gr.of hbl23 _) lR
  replace hT6 := hT6.gr (Gr.of hbl23 _) lR
  replace hL19 := hL19.gr (Gr.of hbl23 _) lR
  refine .ops0 ?_
  refine At.wpcN (.cons rfl rfl rfl rfl (fun Lx => ?_) (.cons rfl rfl rfl rfl (fun Lx => ?_) .nil)) ?_
  ·skip
   exact .load rfl (Ld.own ag31 (sz31.trans (congrArg some hT6.1.one.size.symm)) hb10) rfl (.ops0 fun a ha => ⟨ha, rfl⟩)
  ·skip
   exact .load rfl (Ld.own ag31 (sz31.trans (congrArg some hT.1.one.size.symm)) hb7) rfl (.ops0 fun a ha => ⟨ha, rfl⟩)
  refine At.wpcE [6] (by kernel_rfl) (by kernel_rfl) (.cons [13] rfl (by kernel_rfl) ?_ .nil)
  refine At.buildSlice (xs := [.tmp 117, .tmp 122]) rfl rfl el22 sz31 ze31 (by intro v hv; simp only [List.mem_cons, List.not_mem_nil, or_false] at hv; rcases hv with rfl | rfl <;> first | exact hT6.1.one.size | exact hT23.1.one.size) rfl (by decide) rfl (fun b20 w61 F20 => ?_)
  have hL20 := TL.two hT6 hT23 F20 (MLt.blk hb7 (MLt.nil _))
  replace hb1 := F20.old hb1
  replace hb2 := F20.old hb2
  replace hb3 := F20.old hb3
  replace hb7 := F20.old hb7
  replace hG := hG.below F20.bel
  replace hT := hT.gr (Gr.of F20.bel _) lR
  replace hI8 := hI8.gr (Gr.of F20.bel _) lR
  replace hI11 := hI11.gr (Gr.of F20.bel _) lR
  replace hL19 := hL19.gr (Gr.of F20.bel _) lR
  refine .ops0 ?_
  refine At.wpcN (.cons rfl rfl rfl rfl (fun Lx => ?_) .nil) ?_
  ·skip
   exact .load rfl (Ld.own ag31 (sz31.trans (congrArg some hT.1.one.size.symm)) hb7) rfl (.ops0 fun a ha => ⟨ha, rfl⟩)
  refine At.wpcE [7] (by kernel_rfl) (by kernel_rfl) (.cons [13] rfl (by kernel_rfl) ?_ .nil)
  refine At.call en18 rfl rfl (opL_any (M := (some b7 :: [])) (nc := 0) (⟨#[58, 61]⟩ : ByteArray) _ (MLt.blk hb7 (MLt.nil _)) hL20 rfl) (fun e w62 hR => ?_)
  obtain ⟨q24, rfl, hT24, hbl24⟩ := hR; refine ⟨_, rfl, ?_⟩
  replace hb1 := Below.old hbl24 hb1
  replace hb2 := Below.old hbl24 hb2
  replace hb3 := Below.old hbl24 hb3
  replace hb7 := Below.old hbl24 hb7
  replace hG := hG.below hbl24
  replace hT := hT.gr (Gr.of hbl24 _) lR
  replace hI8 := hI8.gr (Gr.of hbl24 _) lR
  replace hI11 := hI11.gr (Gr.of hbl24 _) lR
  replace hL19 := hL19.gr (Gr.of hbl24 _) lR
  refine .ops0 ?_
  refine At.wpcN (.cons rfl rfl rfl rfl (fun Lx => ?_) .nil) ?_
  ·skip
   exact .load rfl (Ld.own ag31 (sz31.trans (congrArg some hT.1.one.size.symm)) hb7) rfl (.ops0 fun a ha => ⟨ha, rfl⟩)
  refine At.wpcE [10] (by kernel_rfl) (by kernel_rfl) (.cons [13] rfl (by kernel_rfl) ?_ .nil)
  refine At.call en18 rfl rfl (opL_any (M := (some b7 :: [])) (nc := 0) (⟨#[33]⟩ : ByteArray) _ (MLt.blk hb7 (MLt.nil _)) hL19 rfl) (fun e w63 hR => ?_)
  obtain ⟨q25, rfl, hT25, hbl25⟩ := hR; refine ⟨_, rfl, ?_⟩
  replace hb1 := Below.old hbl25 hb1
  replace hb2 := Below.old hbl25 hb2
  replace hb3 := Below.old hbl25 hb3
  replace hb7 := Below.old hbl25 hb7
  replace hG := hG.below hbl25
  replace hT := hT.gr (Gr.of hbl25 _) lR
  replace hI8 := hI8.gr (Gr.of hbl25 _) lR
  replace hI11 := hI11.gr (Gr.of hbl25 _) lR
  replace hT24 := hT24.gr (Gr.of hbl25 _) lR
  refine .ops0 ?_
  refine At.wpcN (.cons rfl rfl rfl rfl (fun Lx => ?_) .nil) ?_
  ·skip
   exact .load rfl (Ld.own ag31 (sz31.trans (congrArg some hT.1.one.size.symm)) hb7) rfl (.ops0 fun a ha => ⟨ha, rfl⟩)
  refine At.wpcE [11] (by kernel_rfl) (by kernel_rfl) (.cons [13] rfl (by kernel_rfl) ?_ .nil)
  refine At.buildSlice (xs := [.tmp 127]) rfl rfl el22 sz31 ze31 (by intro v hv; simp only [List.mem_cons, List.not_mem_nil, or_false] at hv; rcases hv with rfl <;> first | exact hT25.1.one.size) rfl (by decide) rfl (fun b21 w64 F21 => ?_)
  have hL21 := TL.one hT25 F21 (MLt.blk hb7 (MLt.nil _))
  replace hb1 := F21.old hb1
  replace hb2 := F21.old hb2
  replace hb3 := F21.old hb3
  replace hb7 := F21.old hb7
  replace hG := hG.below F21.bel
  replace hT := hT.gr (Gr.of F21.bel _) lR
  replace hI8 := hI8.gr (Gr.of F21.bel _) lR
  replace hI11 := hI11.gr (Gr.of F21.bel _) lR
  replace hT24 := hT24.gr (Gr.of F21.bel _) lR
  refine .ops0 ?_
  refine At.wpcN (.cons rfl rfl rfl rfl (fun Lx => ?_) .nil) ?_
  ·skip
   exact .load rfl (Ld.own ag31 (sz31.trans (congrArg some hT.1.one.size.symm)) hb7) rfl (.ops0 fun a ha => ⟨ha, rfl⟩)
  refine At.wpcE [12] (by kernel_rfl) (by kernel_rfl) (.cons [13] rfl (by kernel_rfl) ?_ .nil)
  refine At.call en18 rfl rfl (opL_any (M := (some b7 :: [])) (nc := 0) (⟨#[112, 114, 105, 110, 116]⟩ : ByteArray) _ (MLt.blk hb7 (MLt.nil _)) hL21 rfl) (fun e w65 hR => ?_)
  obtain ⟨q26, rfl, hT26, hbl26⟩ := hR; refine ⟨_, rfl, ?_⟩
  replace hb1 := Below.old hbl26 hb1
  replace hb2 := Below.old hbl26 hb2
  replace hb3 := Below.old hbl26 hb3
  replace hb7 := Below.old hbl26 hb7
  replace hG := hG.below hbl26
  replace hT := hT.gr (Gr.of hbl26 _) lR
  replace hI8 := hI8.gr (Gr.of hbl26 _) lR
  replace hI11 := hI11.gr (Gr.of hbl26 _) lR
  replace hT24 := hT24.gr (Gr.of hbl26 _) lR
  refine .ops0 ?_
  refine At.wpcN (.cons rfl rfl rfl rfl (fun Lx => ?_) .nil) ?_
  ·skip
   exact .load rfl (Ld.own ag31 (sz31.trans (congrArg some hT.1.one.size.symm)) hb7) rfl (.ops0 fun a ha => ⟨ha, rfl⟩)
  refine At.wpcE [14] (by kernel_rfl) (by kernel_rfl) (.cons [] rfl (by kernel_rfl) ?_ .nil)
  refine At.call en17 rfl rfl (letL_any (M := (some b7 :: [])) (nc := 0) (⟨#[95]⟩ : ByteArray) _ (MLt.blk hb7 (MLt.nil _)) hT26 hT) (fun e w66 hR => ?_)
  obtain ⟨q27, rfl, hT27, hbl27⟩ := hR; refine ⟨_, rfl, ?_⟩
  replace hb1 := Below.old hbl27 hb1
  replace hb2 := Below.old hbl27 hb2
  replace hb3 := Below.old hbl27 hb3
  replace hb7 := Below.old hbl27 hb7
  replace hG := hG.below hbl27
  replace hT := hT.gr (Gr.of hbl27 _) lR
  replace hI8 := hI8.gr (Gr.of hbl27 _) lR
  replace hI11 := hI11.gr (Gr.of hbl27 _) lR
  replace hT24 := hT24.gr (Gr.of hbl27 _) lR
  refine .ops0 (.wpcN .nil ?_)
  refine At.wpcE [15] (by kernel_rfl) (by kernel_rfl) (.cons [] rfl (by kernel_rfl) ?_ .nil)
  refine At.call en17 rfl rfl (letL_any (M := (some b7 :: [])) (nc := 0) (⟨#[95]⟩ : ByteArray) _ (MLt.blk hb7 (MLt.nil _)) hT24 hT27) (fun e w67 hR => ?_)
  obtain ⟨q28, rfl, hT28, hbl28⟩ := hR; refine ⟨_, rfl, ?_⟩
  replace hb1 := Below.old hbl28 hb1
  replace hb2 := Below.old hbl28 hb2
  replace hb3 := Below.old hbl28 hb3
  replace hb7 := Below.old hbl28 hb7
  replace hG := hG.below hbl28
  replace hT := hT.gr (Gr.of hbl28 _) lR
  replace hI8 := hI8.gr (Gr.of hbl28 _) lR
  replace hI11 := hI11.gr (Gr.of hbl28 _) lR
  refine .ops0 (.wpcN .nil ?_)
  refine At.wpcE [16] (by kernel_rfl) (by kernel_rfl) (.cons [] rfl (by kernel_rfl) ?_ .nil)
  refine At.storeAll rfl rfl hb7 (sz31.trans (congrArg some hT28.1.one.size.symm)) (hT.1.one.size.trans hT28.1.one.size.symm) hT28.1.one.one (fun w68 S10 => ?_)
  replace hb1 := S10.other hb1 n_b1_b7
  replace hb2 := S10.other hb2 n_b2_b7
  replace hb3 := S10.other hb3 n_b3_b7
  replace hb7 : w68.heap[b7]? = some (.cells q28.cs 31) := S10.new
  replace hG := hG.set S10 (.inr gb7)
  replace hI8 := hI8.gr ((Gr.refl _ _).set S10 (.inl (by simp))) lR
  replace hI11 := hI11.gr ((Gr.refl _ _).set S10 (.inl (by simp))) lR
  replace hT28 := hT28.gr ((Gr.refl _ _).set S10 (.inl (by simp))) lR
  refine .ops0 (.wpcN .nil (.wpcZ (.inN (.thenN (.region (.move rfl rfl (.subI rfl rfl rfl (by omega) (.assign rfl rfl (.ops0 (.thenN ?_))))))))))
  exact fun act_ hact_ => ⟨(p, q28), hact_.sub (sC rfl (sC rfl (sC rfl (sC rfl (sC rfl (sC rfl (sC rfl sN))))))), ⟨hG, hb1, hb2, hb3, hb7, (by rw [← puts_step hu3]; unfold putT; rw [idx_is hnq2]; exact hT28), hI8, hI11, (by omega)⟩, by first | omega | (dsimp only; omega)⟩
 have hc4' := of_decide_eq_false hc4
 refine .exit (.thenE (.thenE (.inE (.thenN (.seq (.seq ?_))))))
 obtain rfl : j = 0 := by have := of_decide_eq_false hc4; omega
 refine .region (.assign rfl rfl (.ops0 (.thenN (.block ?_))))
 refine At.loop (Nat × Tm) (fun (j, t) => [(5, .bool true), (6, .slice (some ⟨b1, 0, none⟩) 3 3), (8, va3), (10, .pointer (some ⟨b3, 0, none⟩)), (14, .pointer (some ⟨b7, 0, none⟩)), (18, .int .i64 ((j : Int) - 1))]) (fun (j, t) w69 => Gr [] w [] w69 ∧ w69.heap[b1]? = some (.cells #[.string (⟨#[97]⟩ : ByteArray), .string (⟨#[98]⟩ : ByteArray), .string (⟨#[99]⟩ : ByteArray)] 9) ∧ w69.heap[b2]? = some (.cells (arC ds) 59) ∧ w69.heap[b3]? = some (.cells (arC cs) 59) ∧ w69.heap[b7]? = some (.cells t.cs 31) ∧ TT (some b7 :: []) w69 t (rfN cs (putsT ps) j) ∧ TI (some b7 :: []) w69 va3 (ps ++ csF cs ps) ∧ TI (some b7 :: []) w69 vp ps ∧ (j ≤ 3)) (fun (j, t) => j) (3, t) (sC rfl (sC rfl (sC rfl (sC rfl (sC rfl (sC rfl sN)))))) ⟨hG, hb1, hb2, hb3, hb7, (hT), (hI8), (hI11), lR⟩ (fun gh w69 hI => ?_)
 obtain ⟨j, t⟩ := gh
 obtain ⟨hG, hb1, hb2, hb3, hb7, hT, hI8, hI11, hj⟩ := hI
 show At _ _ [(5, .bool true), (6, .slice (some ⟨b1, 0, none⟩) 3 3), (8, va3), (10, .pointer (some ⟨b3, 0, none⟩)), (14, .pointer (some ⟨b7, 0, none⟩)), (18, .int .i64 ((j : Int) - 1))] _ _
 refine .seq (.seq (.region (.move rfl rfl (.geq rfl rfl rfl (.ops0 (.thenN ?_))))))
 refine At.cond (b := decide (0 ≤ ((j : Int) - 1))) rfl (fun hc5 => ?_) (fun hc5 => ?_)
 ·skip
  have hc5' := of_decide_eq_true hc5
  refine .skip (.thenN (.seq (.block ?_)))
  obtain ⟨p, rfl⟩ : ∃ p, j = p + 1 := ⟨j - 1, by have := of_decide_eq_true hc5; omega⟩
  refine .set (d := 18) (u := .int .i64 (p : Int)) rfl (congrArg (Value.int .i64) (by omega)) (.drawG (n := 13) mixed (by kernel_rfl) rfl (PanicOk.block (PanicOk.then (PanicOk.then (PanicOk.block (PanicOk.then PanicOk.body))))) ?_)
  replace hG := hG.drew
  replace hT := hT.gr (Gr.refl _ _).drew lR
  replace hI8 := hI8.gr (Gr.refl _ _).drew lR
  replace hI11 := hI11.gr (Gr.refl _ _).drew lR
  have hb1 : _ := (show w69.drew.heap[b1]? = _ from hb1)
  have hb2 : _ := (show w69.drew.heap[b2]? = _ from hb2)
  have hb3 : _ := (show w69.drew.heap[b3]? = _ from hb3)
  have hb7 : _ := (show w69.drew.heap[b7]? = _ from hb7)
  refine .wpcS (i := 0) (d := 137) (.slice (some ⟨b1, 0, none⟩) 3 3) (by kernel_rfl) rfl rfl rfl (fun Lx => .move rfl rfl (.ops0 fun a ha => ⟨ha, rfl⟩)) ?_
  refine .wpcS (i := 1) (d := 138) (.int .i64 (p : Int)) (by kernel_rfl) rfl rfl rfl (fun Lx => .move rfl rfl (.ops0 fun a ha => ⟨ha, rfl⟩)) ?_
  refine .wpcS (i := 2) (d := 139) (.pointer (some ⟨vBlock (.slice (some ⟨b1, 0, none⟩) 3 3), vOff (.slice (some ⟨b1, 0, none⟩) 3 3) + p * 1, none⟩)) (by kernel_rfl) rfl rfl rfl (fun Lx => .indexAddr (i := p) rfl rfl (slOk_lit b1 (n := 3) (by decide)) (by omega) el25 sz9 rfl (.ops0 fun a ha => ⟨ha, rfl⟩)) ?_
  refine .wpcS (i := 3) (d := 140) (.string (nmI p)) (by kernel_rfl) rfl rfl rfl (fun Lx => .load rfl (Ld.ownCell ag9 hb1 (nm_at (by omega))) rfl (.ops0 fun a ha => ⟨ha, rfl⟩)) ?_
  refine .wpcS (i := 4) (d := 141) (.int .i64 (p : Int)) (by kernel_rfl) rfl rfl rfl (fun Lx => .move rfl rfl (.ops0 fun a ha => ⟨ha, rfl⟩)) ?_
  refine .wpcS (i := 5) (d := 142) (.pointer (some ⟨b3, 0 + p * 1, none⟩)) (by kernel_rfl) rfl rfl rfl (fun Lx => .indexArr (i := p) rfl rfl ar59 (by omega) sz3 rfl (.ops0 fun a ha => ⟨ha, rfl⟩)) ?_
  refine .wpcS (i := 6) (d := 143) (.int .i64 (cs.getD p 0)) (by kernel_rfl) rfl rfl rfl (fun Lx => .load rfl (Ld.ownCell ag3 hb3 (arC_get hcl (by omega))) rfl (.ops0 fun a ha => ⟨ha, rfl⟩)) ?_
  refine .wpcS (i := 10) (d := 147) (.agg t.cs) (by kernel_rfl) rfl rfl rfl (fun Lx => .load rfl (Ld.own ag31 (sz31.trans (congrArg some hT.1.one.size.symm)) hb7) rfl (.ops0 fun a ha => ⟨ha, rfl⟩)) ?_
  refine At.wpcE [7] (by kernel_rfl) (by kernel_rfl) (.cons [0, 1, 2, 3, 10] rfl (by kernel_rfl) ?_ .nil)
  refine At.call en20 rfl rfl (numL_any (M := (some b7 :: [])) (nc := 0) (cs.getD p 0) _ (MLt.blk hb7 (MLt.nil _))) (fun e w70 hR => ?_)
  obtain ⟨q29, rfl, hT29, hbl29⟩ := hR; refine ⟨_, rfl, ?_⟩
  replace hb1 := Below.old hbl29 hb1
  replace hb2 := Below.old hbl29 hb2
  replace hb3 := Below.old hbl29 hb3
  replace hb7 := Below.old hbl29 hb7
  replace hG := hG.below hbl29
  replace hT := hT.gr (Gr.of hbl29 _) lR
  replace hI8 := hI8.gr (Gr.of hbl29 _) lR
  replace hI11 := hI11.gr (Gr.of hbl29 _) lR
  refine .ops0 ?_
  refine At.wpcN (.cons rfl rfl rfl rfl (fun Lx => ?_) (.cons rfl rfl rfl rfl (fun Lx => ?_) (.cons rfl rfl rfl rfl (fun Lx => ?_) (.cons rfl rfl rfl rfl (fun Lx => ?_) (.cons rfl rfl rfl rfl (fun Lx => ?_) .nil))))) ?_
  ·skip
   exact .move rfl rfl (.ops0 fun a ha => ⟨ha, rfl⟩)
  ·skip
   exact .move rfl rfl (.ops0 fun a ha => ⟨ha, rfl⟩)
  ·skip
   exact .indexAddr (i := p) rfl rfl (slOk_lit b1 (n := 3) (by decide)) (by omega) el25 sz9 rfl (.ops0 fun a ha => ⟨ha, rfl⟩)
  ·skip
   exact .load rfl (Ld.ownCell ag9 hb1 (nm_at (by omega))) rfl (.ops0 fun a ha => ⟨ha, rfl⟩)
  ·skip
   exact .load rfl (Ld.own ag31 (sz31.trans (congrArg some hT.1.one.size.symm)) hb7) rfl (.ops0 fun a ha => ⟨ha, rfl⟩)
  refine At.wpcE [8] (by kernel_rfl) (by kernel_rfl) (.cons [0, 1, 2, 3, 10] rfl (by kernel_rfl) ?_ .nil)
  refine At.buildSlice (xs := [.tmp 144]) rfl rfl el22 sz31 ze31 (by intro v hv; simp only [List.mem_cons, List.not_mem_nil, or_false] at hv; rcases hv with rfl <;> first | exact hT29.1.one.size) rfl (by decide) rfl (fun b22 w71 F22 => ?_)
  have hL22 := TL.one hT29 F22 (MLt.blk hb7 (MLt.nil _))
  replace hb1 := F22.old hb1
  replace hb2 := F22.old hb2
  replace hb3 := F22.old hb3
  replace hb7 := F22.old hb7
  replace hG := hG.below F22.bel
  replace hT := hT.gr (Gr.of F22.bel _) lR
  replace hI8 := hI8.gr (Gr.of F22.bel _) lR
  replace hI11 := hI11.gr (Gr.of F22.bel _) lR
  refine .ops0 ?_
  refine At.wpcN (.cons rfl rfl rfl rfl (fun Lx => ?_) (.cons rfl rfl rfl rfl (fun Lx => ?_) (.cons rfl rfl rfl rfl (fun Lx => ?_) (.cons rfl rfl rfl rfl (fun Lx => ?_) (.cons rfl rfl rfl rfl (fun Lx => ?_) .nil))))) ?_
  ·skip
   exact .move rfl rfl (.ops0 fun a ha => ⟨ha, rfl⟩)
  ·skip
   exact .move rfl rfl (.ops0 fun a ha => ⟨ha, rfl⟩)
  ·skip
   exact .indexAddr (i := p) rfl rfl (slOk_lit b1 (n := 3) (by decide)) (by omega) el25 sz9 rfl (.ops0 fun a ha => ⟨ha, rfl⟩)
  ·skip
   exact .load rfl (Ld.ownCell ag9 hb1 (nm_at (by omega))) rfl (.ops0 fun a ha => ⟨ha, rfl⟩)
  ·skip
   exact .load rfl (Ld.own ag31 (sz31.trans (congrArg some hT.1.one.size.symm)) hb7) rfl (.ops0 fun a ha => ⟨ha, rfl⟩)
  refine At.wpcE [9] (by kernel_rfl) (by kernel_rfl) (.cons [0, 1, 2, 3, 10] rfl (by kernel_rfl) ?_ .nil)
  refine At.call en18 rfl rfl (opL_any (M := (some b7 :: [])) (nc := 0) (⟨#[114, 101, 102]⟩ : ByteArray) _ (MLt.blk hb7 (MLt.nil _)) hL22 rfl) (fun e w72 hR => ?_)
  obtain ⟨q30, rfl, hT30, hbl30⟩ := hR; refine ⟨_, rfl, ?_⟩
  replace hb1 := Below.old hbl30 hb1
  replace hb2 := Below.old hbl30 hb2
  replace hb3 := Below.old hbl30 hb3
  replace hb7 := Below.old hbl30 hb7
  replace hG := hG.below hbl30
  replace hT := hT.gr (Gr.of hbl30 _) lR
  replace hI8 := hI8.gr (Gr.of hbl30 _) lR
  replace hI11 := hI11.gr (Gr.of hbl30 _) lR
  refine .ops0 ?_
  refine At.wpcN (.cons rfl rfl rfl rfl (fun Lx => ?_) (.cons rfl rfl rfl rfl (fun Lx => ?_) (.cons rfl rfl rfl rfl (fun Lx => ?_) (.cons rfl rfl rfl rfl (fun Lx => ?_) (.cons rfl rfl rfl rfl (fun Lx => ?_) .nil))))) ?_
  ·skip
   exact .move rfl rfl (.ops0 fun a ha => ⟨ha, rfl⟩)
  ·skip
   exact .move rfl rfl (.ops0 fun a ha => ⟨ha, rfl⟩)
  ·skip
   exact .indexAddr (i := p) rfl rfl (slOk_lit b1 (n := 3) (by decide)) (by omega) el25 sz9 rfl (.ops0 fun a ha => ⟨ha, rfl⟩)
  ·skip
   exact .load rfl (Ld.ownCell ag9 hb1 (nm_at (by omega))) rfl (.ops0 fun a ha => ⟨ha, rfl⟩)
  ·skip
   exact .load rfl (Ld.own ag31 (sz31.trans (congrArg some hT.1.one.size.symm)) hb7) rfl (.ops0 fun a ha => ⟨ha, rfl⟩)
  refine At.wpcE [11] (by kernel_rfl) (by kernel_rfl) (.cons [] rfl (by kernel_rfl) ?_ .nil)
  refine At.call en17 rfl rfl (letL_any (M := (some b7 :: [])) (nc := 0) (nmI p) _ (MLt.blk hb7 (MLt.nil _)) hT30 hT) (fun e w73 hR => ?_)
  obtain ⟨q31, rfl, hT31, hbl31⟩ := hR; refine ⟨_, rfl, ?_⟩
  replace hb1 := Below.old hbl31 hb1
  replace hb2 := Below.old hbl31 hb2
  replace hb3 := Below.old hbl31 hb3
  replace hb7 := Below.old hbl31 hb7
  replace hG := hG.below hbl31
  replace hT := hT.gr (Gr.of hbl31 _) lR
  replace hI8 := hI8.gr (Gr.of hbl31 _) lR
  replace hI11 := hI11.gr (Gr.of hbl31 _) lR
  refine .ops0 (.wpcN .nil ?_)
  refine At.wpcE [12] (by kernel_rfl) (by kernel_rfl) (.cons [] rfl (by kernel_rfl) ?_ .nil)
  refine At.storeAll rfl rfl hb7 (sz31.trans (congrArg some hT31.1.one.size.symm)) (hT.1.one.size.trans hT31.1.one.size.symm) hT31.1.one.one (fun w74 S11 => ?_)
  replace hb1 := S11.other hb1 n_b1_b7
  replace hb2 := S11.other hb2 n_b2_b7
  replace hb3 := S11.other hb3 n_b3_b7
  replace hb7 : w74.heap[b7]? = some (.cells q31.cs 31) := S11.new
  replace hG := hG.set S11 (.inr gb7)
  replace hI8 := hI8.gr ((Gr.refl _ _).set S11 (.inl (by simp))) lR
  replace hI11 := hI11.gr ((Gr.refl _ _).set S11 (.inl (by simp))) lR
  replace hT31 := hT31.gr ((Gr.refl _ _).set S11 (.inl (by simp))) lR
  refine .ops0 (.wpcN .nil (.wpcZ (.inN (.thenN (.region (.move rfl rfl (.subI rfl rfl rfl (by omega) (.assign rfl rfl (.ops0 (.thenN ?_))))))))))
  exact fun act_ hact_ => ⟨(p, q31), hact_.sub (sC rfl (sC rfl (sC rfl (sC rfl (sC rfl (sC rfl sN)))))), ⟨hG, hb1, hb2, hb3, hb7, (by rw [← rfN_step cs (putsT ps) (p := p) (by omega)]; exact hT31), hI8, hI11, (by omega)⟩, by first | omega | (dsimp only; omega)⟩
 have hc5' := of_decide_eq_false hc5
 refine .exit (.thenE (.thenE (.inE (.thenN (.seq ?_)))))
 obtain rfl : j = 0 := by have := of_decide_eq_false hc5; omega
 refine .region (.load rfl (Ld.own ag31 (sz31.trans (congrArg some hT.1.one.size.symm)) hb7) rfl (.build (C := (mx [zN, zN] t.cs [])) sd38 ze38 rfl (Bld.mxT (pre := [zN, zN]) (post := []) fo38_2 hT.1.one.size (Nat.le_of_ble_eq_true rfl) rfl rfl (Bld.nil _)) rfl ?_))
 obtain ⟨R, hRR⟩ : ∃ R, runR (rfN cs (putsT ps) 0) [] 4500 = R := ⟨_, rfl⟩; have hrd := (cells_law hcl hpl).2; rw [hRR] at hrd; obtain ⟨hr1, hr2⟩ := hrd
 refine At.call en14 rfl rfl (run_any (E := (some b7 :: [])) (l := []) 4500 _ ((SlOk.nil)).one ((SlOk.nil)).one hT.1 (MLt.blk hb7 (MLt.nil _)) (RowsAt.nil _ 1) (by decide) (by decide) (by rw [hT.2]; exact (cells_law hcl hpl).1)) (fun e w75 hR => ?_)
 obtain ⟨cs, rfl, hra, hbl32⟩ := hR; refine ⟨_, rfl, ?_⟩; rw [hT.2] at hra; rw [hRR] at hra
 replace hG := hG.below hbl32
 replace hI8 := hI8.gr (Gr.of hbl32 _) lR
 obtain ⟨rk1, rn1, rm1, rv1, rt1, rfl, ho1, hi1, hz1⟩ := hra; replace ho1 : TO (some b7 :: []) w75 rk1 rn1 rm1 rv1 R.v := ho1; replace hi1 : TI (some b7 :: []) w75 rt1 R.tr := ⟨hi1, hz1⟩
 rw [hr2] at hi1
 refine At.alloc ze49 rfl (fun b23 w76 F23 => ?_)
 have hb23 : w76.heap[b23]? = some (.cells #[zI, zI, zI, zS, zN, zN, zI, zI] 49) := F23.new
 refine At.storeAll rfl rfl hb23 sz49 rfl (by first | (simp [Value.oneCell', (OAt.one ho1), hi1.1.ok.one]; done) | (simp only [List.all_toArray, List.all_cons, List.all_nil, (OAt.one ho1), hi1.1.ok.one, Bool.and_true, Bool.true_and] <;> rfl)) (fun w77 S12 => ?_)
 replace hb23 : w77.heap[b23]? = some (.cells #[.int .i64 R.ok, .int .i64 rk1, .int .i64 rn1, .string rm1, rv1, rt1, .int .i64 R.st, .int .i64 R.kn] 49) := S12.new
 replace hG := hG.below (F23.bel2 S12)
 replace hI8 := hI8.gr (Gr.of (F23.bel2 S12) _) lR
 replace hi1 := hi1.gr (Gr.of (F23.bel2 S12) _) lR
 refine .ops0 (.thenN (.seq (.region (.move rfl rfl (.move rfl rfl (.yes rfl rfl rfl rfl (.fieldAddr rfl fo49_0 rfl (.yes rfl rfl rfl rfl (.fieldAddr rfl fo47_0 rfl (.yes rfl rfl rfl rfl (.load rfl (Ld.ownCell ag3 hb23 rfl) rfl (.yes rfl rfl rfl rfl (.eqI rfl rfl rfl (.set (d := 157) (u := .bool true) rfl (congrArg Value.bool (decide_eq_true hr1)) (.pickT rfl rfl rfl (.move rfl rfl (.yes rfl rfl rfl rfl (.fieldAddr rfl fo49_1 rfl (.yes rfl rfl rfl rfl (.load rfl (Ld.ownCell ag32 hb23 rfl) rfl (.yes rfl rfl rfl rfl (.move rfl rfl (.yes rfl rfl rfl rfl ?_)))))))))))))))))))))))
 refine At.call en16 rfl rfl (same_any _ hi1.1 hI8.1) (fun e w78 hR => ?_)
 obtain ⟨rfl, hbl33⟩ := hR; refine ⟨_, rfl, ?_⟩
 replace hG := hG.below hbl33
 refine .set (d := 163) (u := .bool true) rfl (congrArg Value.bool (decide_eq_true rfl)) (.pickT rfl rfl rfl (.assign rfl rfl (.ops0 (.thenN (.retc (.doneR (ResV.tmp rfl ResV.nil) ?_))))))
 exact ⟨rfl, hG.base⟩
section
variable {H : Type} (enc : TypeId × Value → H) (P : Program) (w : World)
def Rd (n : Nat) (t : TypeId) (cs : List Value) : Prop := ∃ x, DataW.trod enc P w 0 (fun _ => true) true n t cs = some x
end
def kindB (P : Program) (t : TypeId) : Nat :=
  match P.underlying t with
  | some (.int .i64) => 1
  | some .string => 2
  | some .bool => 3
  | _ => 0
def fieldT (P : Program) (t : TypeId) (i : Nat) : Option (Nat × TypeId) :=
  match P.underlying t with
  | some (.struct fs) => (fs[i]?).map fun f => (f.offset, f.type)
  | _ => none
def closB (P : Program) (ts : List TypeId) : Bool :=
  ts.all fun t => match P.underlying t with
    | some (.struct fs) => (fs.toList.all fun f => ts.contains f.type) && (List.range (P.cellsOf t)).all fun j => fs.toList.any fun f => Nat.ble f.offset j && Nat.blt j (f.offset + P.cellsOf f.type)
    | some (.int _) | some .string | some .bool | some (.slice _) => true
    | _ => false
section
variable {H : Type} {enc : TypeId × Value → H} {P : Program} {w : World} {n : Nat} {t e : TypeId} {cs : List Value}
theorem Rd.int (ht : kindB P t = 1) (h : Rd enc P w n t cs) : ∃ m, cs = [.int .i64 m] := by
  obtain ⟨x, h⟩ := h
  have hu : P.underlying t = some (.int .i64) := by
    unfold kindB at ht
    split at ht <;> first | assumption | cases ht
  obtain ⟨m, h1, _⟩ := DataW.trod_int hu h
  exact ⟨m, h1⟩
theorem Rd.field {i o : Nat} {u : TypeId} (ht : fieldT P t i = some (o, u)) (h : Rd enc P w n t cs) : ∃ m, m < n ∧ Rd enc P w m u ((cs.drop o).take (P.cellsOf u)) := by
  obtain ⟨x, h⟩ := h
  unfold fieldT at ht
  split at ht
  · rename_i fs hu
    obtain ⟨xs, m, rfl, _, _, hl, hf⟩ := DataW.trod_struct hu h
    cases hi : fs[i]? with
    | none => rw [hi] at ht; cases ht
    | some f =>
      rw [hi] at ht
      simp only [Option.map_some, Option.some.injEq, Prod.mk.injEq] at ht
      obtain ⟨rfl, rfl⟩ := ht
      have h1 := hf i f hi
      have : i < xs.length := by rw [hl]; exact (Array.getElem?_eq_some_iff.1 hi).1
      exact ⟨m, Nat.lt_succ_self m, xs[i], by rw [h1, List.getElem?_eq_getElem this]⟩
  · cases ht
theorem Rd.len {i o : Nat} {u : TypeId} (ht : fieldT P t i = some (o, u)) (h : Rd enc P w n t cs) : cs.length = P.cellsOf t := by
  obtain ⟨x, h⟩ := h
  unfold fieldT at ht
  split at ht
  · rename_i fs hu
    obtain ⟨xs, m, rfl, _, hc, _⟩ := DataW.trod_struct hu h
    exact hc
  · cases ht
theorem cells_at {a : Addr} {k : Nat} {row : List Value} (h : w.cells? 0 a k = some row) : row.length = k ∧ (0 < k → a.spot = none) ∧ CellsAt w a.block a.off row.toArray := by
  unfold World.cells? at h
  rw [if_pos (Nat.zero_le _)] at h
  have key : ∀ (k : Nat) (s : Nat) (row : List Value), (List.range' s k).mapM (fun i => w.cell? (a.add i)) = some row → row.length = k ∧ ∀ j : Nat, ∀ v, row[j]? = some v → w.cell? (a.add (s + j)) = some v := by
    intro k
    induction k with
    | zero => intro s row h; simp at h; subst h; exact ⟨rfl, fun j v hv => by simp at hv⟩
    | succ k ih =>
      intro s row h
      rw [List.range'_succ, List.mapM_cons] at h
      cases hc : w.cell? (a.add s) with
      | none => simp [hc] at h
      | some c =>
        cases hr : (List.range' (s + 1) k).mapM (fun i => w.cell? (a.add i)) with
        | none => simp [hc, hr] at h
        | some r =>
          simp [hc, hr] at h
          subst h
          obtain ⟨h1, h2⟩ := ih (s + 1) r hr
          refine ⟨by simp [h1], fun j v hv => ?_⟩
          cases j with
          | zero => simp at hv; subst hv; exact hc
          | succ j =>
            have := h2 j v (by simpa using hv)
            rw [← this]; congr 2; omega
  rw [List.range_eq_range'] at h
  obtain ⟨h1, h2⟩ := key k 0 row h
  have hsp : 0 < k → a.spot = none := by
    intro hk
    have hl : 0 < row.length := by omega
    have := h2 0 row[0] (List.getElem?_eq_getElem hl)
    rw [show a.add (0 + 0) = a by simp [Addr.add]] at this
    unfold World.cell? at this
    split at this
    · split at this
      · cases this
      · rename_i hs; cases hq : a.spot with
        | none => rfl
        | some q => rw [hq] at hs; exact absurd rfl hs
    · cases this
  refine ⟨h1, hsp, fun j v hv => ?_⟩
  have hj : j < row.length := by simpa using (Array.getElem?_eq_some_iff.1 hv).1
  have h3 := h2 j v (by simpa using hv)
  have hs := hsp (by omega)
  obtain ⟨b, o, sp⟩ := a
  simp only at hs
  subst hs
  rw [Nat.zero_add, add_at] at h3
  exact h3
theorem Rd.slice {sz : Nat} (ht : elemB P t = some e) (hc : P.cellsOf e = sz) (hz : 0 < sz) (h : Rd enc P w n t cs) :
    ∃ v len, cs = [v] ∧ SlOk v len ∧ len ≤ 9223372036854775807 ∧ ∃ m, m < n ∧ ∀ i, i < len → ∃ row : List Value, row.length = sz ∧ CellsAt w (vBlock v) (vOff v + i * sz) row.toArray ∧ Rd enc P w m e row := by
  obtain ⟨x, h⟩ := h
  have hn : 0 < n := by cases n with | zero => simp [DataW.trod] at h | succ n => omega
  rcases DataW.trod_slice (underlying_elem ht) h with ⟨rfl, _⟩ | ⟨a, len, cap, elems, rest, m, rfl, rfl, _, _, hl, hm, hel, hget, _⟩
  · exact ⟨_, 0, rfl, .inl ⟨rfl, rfl⟩, by omega, 0, hn, fun i hi => by omega⟩
  · rw [hc] at hget
    have each : ∀ i, i < len → ∃ row : List Value, w.cells? 0 (a.add (i * sz)) sz = some row ∧ Rd enc P w m e row := by
      intro i hi
      have h1 := hget i hi
      have hlt : i < elems.length := by omega
      rw [List.getElem?_eq_getElem hlt, Option.bind_eq_some_iff] at h1
      obtain ⟨row, h2, h3⟩ := h1
      exact ⟨row, h2, _, h3⟩
    have hsp : 0 < len → a.spot = none := by
      intro h0
      obtain ⟨row, h2, _⟩ := each 0 h0
      have := (cells_at h2).2.1 hz
      simpa [Addr.add] using this
    refine ⟨_, len, rfl, .inr ⟨a, cap, rfl, hl, hsp⟩, by have : maxLen = 9223372036854775807 := rfl; omega, m, Nat.lt_succ_self m, fun i hi => ?_⟩
    obtain ⟨row, h2, h3⟩ := each i hi
    obtain ⟨h4, _, h5⟩ := cells_at h2
    refine ⟨row, h4, ?_, h3⟩
    have ha := hsp (by omega)
    obtain ⟨b, o, sp⟩ := a
    simp only at ha
    subst ha
    rw [add_at] at h5
    exact h5
theorem list_of {β : Type} {Q : Nat → β → Prop} : ∀ (len : Nat), (∀ i, i < len → ∃ b, Q i b) → ∃ l : List β, l.length = len ∧ ∀ i b, l[i]? = some b → Q i b := by
  intro len
  induction len with
  | zero => intro _; exact ⟨[], rfl, fun i b h => by simp at h⟩
  | succ len ih =>
    intro h
    obtain ⟨l, h1, h2⟩ := ih fun i hi => h i (by omega)
    obtain ⟨b, hb⟩ := h len (by omega)
    refine ⟨l ++ [b], by simp [h1], fun i c hc => ?_⟩
    by_cases hi : i < l.length
    · exact h2 i c (by rwa [List.getElem?_append_left hi] at hc)
    · rw [List.getElem?_append_right (by omega)] at hc
      have : i - l.length = 0 := by
        have := (List.getElem?_eq_some_iff.1 hc).1
        simp at this; omega
      rw [this] at hc
      simp at hc
      subst hc
      have : i = len := by omega
      rw [this]; exact hb
theorem Rd.rows {β : Type} {sz : Nat} {f : β → Array Value} {Ok : β → Prop} (ht : elemB P t = some e) (hc : P.cellsOf e = sz) (hz : 0 < sz) (h : Rd enc P w n t cs)
    (each : ∀ m, m < n → ∀ row : List Value, row.length = sz → Rd enc P w m e row → ∃ b, f b = row.toArray ∧ Ok b) : ∃ (v : Value) (l : List β), cs = [v] ∧ RowsAt w v sz (l.map f) ∧ ∀ b ∈ l, Ok b := by
  obtain ⟨v, len, h1, h2, h3, m, hm, h4⟩ := Rd.slice ht hc hz h
  obtain ⟨l, hl, hq⟩ := list_of (Q := fun i b => (f b).size = sz ∧ CellsAt w (vBlock v) (vOff v + i * sz) (f b) ∧ Ok b) len fun i hi => by
    obtain ⟨row, r1, r2, r3⟩ := h4 i hi
    obtain ⟨b, b1, b2⟩ := each m hm row r1 r3
    exact ⟨b, by rw [b1]; simpa using r1, by rw [b1]; exact r2, b2⟩
  refine ⟨v, l, h1, ⟨by simpa [hl] using h2, fun i cs hi => ?_, fun i cs hi => ?_, by simpa [hl] using h3⟩, fun b hb => ?_⟩
  · simp only [List.getElem?_map, Option.map_eq_some_iff] at hi
    obtain ⟨b, hb, rfl⟩ := hi; exact (hq i b hb).1
  · simp only [List.getElem?_map, Option.map_eq_some_iff] at hi
    obtain ⟨b, hb, rfl⟩ := hi; exact (hq i b hb).2.1
  · obtain ⟨i, hi⟩ := List.getElem?_of_mem hb
    exact (hq i b hi).2.2
theorem Rd.one {ts : List TypeId} (hc : closB P ts = true) : ∀ (n : Nat) (t : TypeId) (cs : List Value), t ∈ ts → Rd enc P w n t cs → ∀ v ∈ cs, v.oneCell' = true := by
  intro n
  induction n with
  | zero => intro t cs _ h; obtain ⟨x, h⟩ := h; simp [DataW.trod] at h
  | succ n ih =>
    intro t cs ht h
    have hct := List.all_eq_true.1 hc t ht
    obtain ⟨x, h⟩ := h
    cases hu : P.underlying t with
    | none => unfold DataW.trod at h; rw [hu] at h; simp at h
    | some d =>
      cases d with
      | struct fs =>
        obtain ⟨xs, m, hm, _, hcl, hl, hf⟩ := DataW.trod_struct hu h
        obtain rfl : n = m := by omega
        rw [hu] at hct
        simp only [Bool.and_eq_true] at hct
        intro v hv
        obtain ⟨j, hj⟩ := List.getElem?_of_mem hv
        have hjl : j < P.cellsOf t := by rw [← hcl]; exact (List.getElem?_eq_some_iff.1 hj).1
        have h2 := List.all_eq_true.1 hct.2 j (by simpa using hjl)
        obtain ⟨f, hf1, hf2⟩ := List.any_eq_true.1 h2
        simp only [Bool.and_eq_true, Nat.ble_eq, Nat.blt_eq] at hf2
        have hf3 := List.all_eq_true.1 hct.1 f hf1
        obtain ⟨i, hi⟩ := List.getElem?_of_mem hf1
        have hi' : fs[i]? = some f := by simpa using hi
        have h4 := hf i f hi'
        have hil : i < xs.length := by rw [hl]; exact (Array.getElem?_eq_some_iff.1 hi').1
        rw [List.getElem?_eq_getElem hil] at h4
        refine ih f.type _ (List.contains_iff_mem.1 hf3) ⟨_, h4⟩ v ?_
        refine List.mem_of_getElem? (i := j - f.offset) ?_
        rw [List.getElem?_take_of_lt (by omega), List.getElem?_drop]
        rw [show f.offset + (j - f.offset) = j by omega]; exact hj
      | int k => obtain ⟨m, rfl, _⟩ := DataW.trod_int hu h; intro v hv; simp at hv; subst hv; rfl
      | string => obtain ⟨m, rfl, _⟩ := DataW.trod_string hu h; intro v hv; simp at hv; subst hv; rfl
      | bool => obtain ⟨m, rfl, _⟩ := DataW.trod_bool hu h; intro v hv; simp at hv; subst hv; rfl
      | slice e =>
        rcases DataW.trod_slice hu h with ⟨rfl, _⟩ | ⟨a, len, cap, elems, rest, m, _, rfl, _⟩
        · intro v hv; simp at hv; subst hv; rfl
        · intro v hv; simp at hv; subst hv; rfl
      | _ => rw [hu] at hct; cases hct
end
section
variable {H : Type} {enc : TypeId × Value → H}
theorem e32 : elemB Tryz.prog 32 = some 3 := by kernel_rfl
theorem c3 : Tryz.prog.cellsOf 3 = 1 := by kernel_rfl
theorem k3 : kindB Tryz.prog 3 = 1 := by kernel_rfl
theorem ints_arg {w : World} {a : Option Addr} {m c : Nat} {d : DataW H} {ps : List MemPlace} (h : DataW.Trod enc Tryz.prog w 0 (fun _ => true) true 32 (.slice a m c) d ps) : ∃ l : List Int, IntsAt w (.slice a m c) l := by
  obtain ⟨n, h⟩ := h
  obtain ⟨v, l, h1, h2, _⟩ := Rd.rows (f := fun s : Int => #[Value.int .i64 s]) (Ok := fun _ => True) e32 c3 (by omega) (⟨_, h⟩ : Rd enc Tryz.prog w n 32 _) fun m hm row hr hd => by
    obtain ⟨x, hx⟩ := Rd.int k3 hd
    exact ⟨x, by rw [hx], trivial⟩
  have : v = .slice a m c := by simpa [Value.cells] using h1.symm
  rw [this] at h2
  exact ⟨l, h2⟩
theorem max_cell {w : World} (h : w.ShapedOpen Tryz.prog) : ∃ m, w.cell? ⟨0, 0, none⟩ = some (.int .i64 m) :=
  cell_of_shapedOpen_int (zero := #[.int .i64 0]) (t := 3) h (of_decide_eq_true (by kernel_rfl)) (by kernel_rfl) rfl (by kernel_rfl) (by kernel_rfl) Tryz.underlying3
end
end Go.Proofs.YtfoolfecjjngpaaGreat
namespace Go.Proofs.YtfoolfecjjngpaaGreat
open Go.ChangeShapes Go.WideShapes Go.ChangeAt Go.RowKit
theorem own_knob : ownKnob Tryz.prog.godebug = none := by kernel_rfl
theorem laid_out : laidOutB Tryz.prog = true := by kernel_rfl
set_option maxRecDepth 100000 in
theorem sourceCells_lifted (os : Os) (started : os.Started) (H : Type) (enc : TypeId × Value → H) :
    ReturnsInHanded {} Tryz.checked os 8 .any (Rows.sourceCellsSpec.pre6 enc Tryz.prog Tryz.f8 Rows.sourceCellsRow.domain false) (Rows.sourceCellsSpec.post enc Tryz.prog Tryz.f8 false true false false) := by
  refine returnsInHanded_of_change_shaped (C := Tryz.checked) own_knob started (by kernel_rfl) Tryz.func8
    (ChangeSpec.witness6 (enc := enc) (C := Tryz.checked) false ⟨#[], #[.slice none 0 0, .slice none 0 0], []⟩ 8 (by kernel_rfl) (by kernel_rfl) (by kernel_rfl) (by kernel_rfl)) ?_
  intro W base args ds gs before hval0 hW hcnd _ hsh _
  obtain ⟨m, hm⟩ := max_cell hsh
  have hval : ∀ (j : Nat) t v, Tryz.f8.params[j]? = some t → args[j]? = some v → Value.okWide Tryz.prog W .any base t v := hval0
  have hW' := hW
  obtain ⟨p, q, hA0, hV, rfl, hfz, hnd⟩ := hW
  have hA : DataW.TrodAll enc Tryz.prog W 0 (fun _ => true) true Tryz.f8.params.toList args.toList ds p := hA0
  rw [Tryz.params8] at hA hval
  obtain ⟨v0, v1, d0, d1, p0, p1, rfl, rfl, rfl, h0, h1⟩ := trodAll_two hA
  obtain ⟨rfl, rfl⟩ := trodVars_none hV
  obtain ⟨s0, n0, c0, rfl⟩ := okWide_slice (show Tryz.prog.underlying 32 = some (.slice 3) by kernel_rfl) (hval 0 32 v0 rfl rfl)
  obtain ⟨l0, hl0⟩ := ints_arg h0
  obtain ⟨s1, n1, c1, rfl⟩ := okWide_slice (show Tryz.prog.underlying 32 = some (.slice 3) by kernel_rfl) (hval 1 32 v1 rfl rfl)
  obtain ⟨l1, hl1⟩ := ints_arg h1
  clear hA0 hval0
  simp only [List.append_nil] at hW'
  have hlt : ∀ x ∈ p0 ++ p1, x.block < W.heap.size := fun x hx => by simpa using hW'.lt x hx
  refine (sourceCells_any W hl0 hl1 hm).mono fun e W' ⟨he, hbelow⟩ => ?_
  subst he
  have harg0 : DataW.Trod enc Tryz.prog W' 0 (fun b => decide (b < W.heap.size)) true 32 (.slice s0 n0 c0) d0 p0 :=
    Below.trod laid_out (by kernel_rfl) (of_decide_eq_true (by kernel_rfl)) h0 hbelow (fun x hx => hlt x (by simp [hx]))
  have harg1 : DataW.Trod enc Tryz.prog W' 0 (fun b => decide (b < W.heap.size)) true 32 (.slice s1 n1 c1) d1 p1 :=
    Below.trod laid_out (by kernel_rfl) (of_decide_eq_true (by kernel_rfl)) h1 hbelow (fun x hx => hlt x (by simp [hx]))
  exact ⟨_, rfl, _, _, _, [], _, [], hW', trodAll_mk1 (shut_bool (by kernel_rfl) _), trodAll_mk2 harg0 harg1, rfl, hbelow.frame _, fun h => by cases h⟩
theorem sourceCells_holds : Rows.SourceCellsSaid :=
  OpenClaim.holds_of_wide 8 Tryz.f8 rfl rfl rfl rfl rfl rfl rfl ⟨rfl, rfl, rfl, rfl, rfl⟩ rfl rfl rfl rfl rfl (by kernel_rfl) Tryz.func8 (by kernel_rfl)
    (of_decide_eq_true (by kernel_rfl)) (by unfold Func.isWrapper; rw [if_neg (by decide +kernel)]; exact ⟨rfl, rfl⟩)
    (fun os started H enc _ => sourceCells_lifted os started H enc)
end Go.Proofs.YtfoolfecjjngpaaGreat
