/-
 The walks of the levels of operators, of arms. Written by a program of ours.
-/
import Derived.Test.YtkjmjnddanhapaaN5
set_option linter.unusedVariables false
set_option linter.unusedSimpArgs false
namespace Go.Proofs.Ytkjmjnddanhapaa
open Go.RowKit
theorem ag29 : aggB Try.prog 29 = some false := by kernel_rfl
theorem ag35 : aggB Try.prog 35 = some true := by kernel_rfl
theorem ag61 : aggB Try.prog 61 = some true := by kernel_rfl
theorem el26 : elemB Try.prog 26 = some 35 := by kernel_rfl
theorem en46 : entB Try.prog 46 = true := by kernel_rfl
theorem en75 : entB Try.prog 75 = true := by kernel_rfl
theorem en87 : entB Try.prog 87 = true := by kernel_rfl
theorem en95 : entB Try.prog 95 = true := by kernel_rfl
theorem fo35_0 : fieldB Try.prog 35 0 = some (0, 1) := by kernel_rfl
theorem fo35_1 : fieldB Try.prog 35 1 = some (1, 1) := by kernel_rfl
theorem fo35_2 : fieldB Try.prog 35 2 = some (2, 1) := by kernel_rfl
theorem fo35_5 : fieldB Try.prog 35 5 = some (5, 1) := by kernel_rfl
theorem fo61_0 : fieldB Try.prog 61 0 = some (0, 1) := by kernel_rfl
theorem fo61_1 : fieldB Try.prog 61 1 = some (1, 1) := by kernel_rfl
theorem fo61_2 : fieldB Try.prog 61 2 = some (2, 21) := by kernel_rfl
theorem sd35 : sizedB Try.prog 35 = true := by kernel_rfl
theorem sd61 : sizedB Try.prog 61 = true := by kernel_rfl
theorem sz29 : sizeB Try.prog 29 = some 1 := by kernel_rfl
theorem sz35 : sizeB Try.prog 35 = some 21 := by kernel_rfl
theorem sz61 : sizeB Try.prog 61 = some 23 := by kernel_rfl
theorem ze35 : zeroB Try.prog 35 = some (.agg #[.int .i64 0, .int .i64 0, .string (⟨#[]⟩ : ByteArray), .string (⟨#[]⟩ : ByteArray), .int .i64 0, (.slice none 0 0), (.slice none 0 0), .int .i64 0, .string (⟨#[]⟩ : ByteArray), .int .i64 0, (.slice none 0 0), (.slice none 0 0), .int .i64 0, (.slice none 0 0), .int .i64 0, .int .i64 0, .string (⟨#[]⟩ : ByteArray), .int .i64 0, (.slice none 0 0), (.slice none 0 0), .int .i64 0]) := by kernel_rfl
theorem ze61 : zeroB Try.prog 61 = some (.agg #[.string (⟨#[]⟩ : ByteArray), (.slice none 0 0), .int .i64 0, .int .i64 0, .string (⟨#[]⟩ : ByteArray), .string (⟨#[]⟩ : ByteArray), .int .i64 0, (.slice none 0 0), (.slice none 0 0), .int .i64 0, .string (⟨#[]⟩ : ByteArray), .int .i64 0, (.slice none 0 0), (.slice none 0 0), .int .i64 0, (.slice none 0 0), .int .i64 0, .int .i64 0, .string (⟨#[]⟩ : ByteArray), .int .i64 0, (.slice none 0 0), (.slice none 0 0), .int .i64 0]) := by kernel_rfl
theorem two_any (nm : ByteArray) (t1 t2 : Tm) (w : World) (h1 : TmOk w t1) (h2 : TmOk w t2) :
  Calls Try.prog 95 ([.string nm, .agg t1.cs, .agg t2.cs] : List Value).toArray w fun e w' => ∃ kv, e = .returned (.agg (tmC 10 t1.at_ nm E0B 0 kv zN)) ∧ Below w.heap.size w w' ∧ RowsAt w' kv 21 ([t1, t2].map Tm.cs) ∧ w.heap.size ≤ vBlock kv := by
 have hB := Below.refl w.heap.size w
 refine At.enter (N := 14) Try.func95 rfl rfl (by simp) [(0, .string nm), (1, .agg t1.cs), (2, .agg t2.cs)] (by simp) ?_
 refine .seq (.region ?_)
 refine At.box rfl rfl (fun b1 w1 F1 => ?_)
 have gb1 := F1.ge hB
 have hb1 : w1.heap[b1]? = some (.cells t1.cs 35) := F1.new
 replace hB := F1.below' hB
 refine At.box rfl rfl (fun b2 w2 F2 => ?_)
 have n_b1_b2 : b1 ≠ b2 := Nat.ne_of_lt (F2.lt hb1)
 have gb2 := F2.ge hB
 replace hb1 := F2.old hb1
 have hb2 : w2.heap[b2]? = some (.cells t2.cs 35) := F2.new
 replace hB := F2.below' hB
 refine At.alloc ze35 rfl (fun b3 w3 F3 => ?_)
 have n_b1_b3 : b1 ≠ b3 := Nat.ne_of_lt (F3.lt hb1)
 have n_b2_b3 : b2 ≠ b3 := Nat.ne_of_lt (F3.lt hb2)
 have gb3 := F3.ge hB
 replace hb1 := F3.old hb1
 replace hb2 := F3.old hb2
 have hb3 : w3.heap[b3]? = some (.cells #[zI, zI, zS, zS, zI, zN, zN, zI, zS, zI, zN, zN, zI, zN, zI, zI, zS, zI, zN, zN, zI] 35) := F3.new
 replace hB := F3.below' hB
 refine .ops0 (.thenN (.seq (.region (.fieldAddr rfl fo35_1 rfl (.load rfl (Ld.ownCell ag3 hb1 (h1).c1) rfl (.move rfl rfl (.load rfl (Ld.own ag35 (sz35.trans (congrArg some (h1).size.symm)) hb1) rfl (.load rfl (Ld.own ag35 (sz35.trans (congrArg some (h2).size.symm)) hb2) rfl ?_))))))))
 refine At.buildSlice (xs := [.tmp 10, .tmp 11]) rfl rfl el26 sz35 ze35 (by intro v hv; simp only [List.mem_cons, List.not_mem_nil, or_false] at hv; rcases hv with rfl | rfl <;> first | rfl | simp [Value.cells, (h1).size, (h2).size]) rfl (by decide) rfl (fun b4 w4 F4 => ?_)
 have n_b1_b4 : b1 ≠ b4 := Nat.ne_of_lt (F4.lt hb1)
 have n_b2_b4 : b2 ≠ b4 := Nat.ne_of_lt (F4.lt hb2)
 have n_b3_b4 : b3 ≠ b4 := Nat.ne_of_lt (F4.lt hb3)
 have gb4 := F4.ge hB
 replace hb1 := F4.old hb1
 replace hb2 := F4.old hb2
 replace hb3 := F4.old hb3
 have hb4 : w4.heap[b4]? = some (.cells (([t1, t2].map Tm.cs).flatMap (·.toList)).toArray 35) := F4.new
 replace hB := F4.below' hB
 refine .build (C := #[.int .i64 10, .int .i64 t1.at_, .string nm, zS, zI, (.slice (some ⟨b4, 0, none⟩) 2 2), zN, zI, zS, zI, zN, zN, zI, zN, zI, zI, zS, zI, zN, zN, zI]) sd35 ze35 rfl (Bld.cons fo35_0 rfl (by first | decide | exact Nat.le_of_ble_eq_true rfl) (Bld.cons fo35_1 rfl (by first | decide | exact Nat.le_of_ble_eq_true rfl) (Bld.cons fo35_2 rfl (by first | decide | exact Nat.le_of_ble_eq_true rfl) (Bld.cons fo35_5 rfl (by first | decide | exact Nat.le_of_ble_eq_true rfl) (Bld.nil _))))) rfl ?_
 refine At.storeAll rfl rfl hb3 sz35 rfl (by first | (simp [Value.oneCell', ((SlOk.nil)).one]; done) | (simp only [List.all_toArray, List.all_cons, List.all_nil, ((SlOk.nil)).one, Bool.and_true, Bool.true_and]; rfl)) (fun w5 S1 => ?_)
 replace hb1 := S1.other hb1 n_b1_b3
 replace hb2 := S1.other hb2 n_b2_b3
 replace hb4 := S1.other hb4 n_b3_b4.symm
 replace hb3 : w5.heap[b3]? = some (.cells #[.int .i64 10, .int .i64 t1.at_, .string nm, zS, zI, (.slice (some ⟨b4, 0, none⟩) 2 2), zN, zI, zS, zI, zN, zN, zI, zN, zI, zI, zS, zI, zN, zN, zI] 35) := S1.new
 replace hB := S1.below' hB gb3
 refine .ops0 (.thenN (.retc (.doneR (ResV.cell rfl (Ld.own (C := #[.int .i64 10, .int .i64 t1.at_, .string nm, zS, zI, (.slice (some ⟨b4, 0, none⟩) 2 2), zN, zI, zS, zI, zN, zN, zI, zN, zI, zI, zS, zI, zN, zN, zI]) ag35 sz35 hb3) ResV.nil) ?_)))
 exact ⟨_, rfl, hB, (rows_tm (m := 2) hb4 (mem2 (Q := fun u => TmOk w5 u) ((h1).keep hB) ((h2).keep hB)) rfl (by decide)), gb4⟩
theorem once_any {wB : World} {b0 : Nat} {en dp : Int} (ts : List Tk) (v : Value) (c : FuncId) (sd : List Tk → PR ST) (vs : Value) (ss : List ByteArray) (w : World) (hB0 : Below wB.heap.size wB w) (hSge : ∀ k, k = b0 → wB.heap.size ≤ k) (hts : RowsAt wB v 4 (ts.map Tk.cs)) (hb0 : w.heap[b0]? = some (.cells #[v, .int .i64 en, .int .i64 dp] 81)) (hbig : ts.length ≤ 100000000) (hent : entB Try.prog c = true) (hshd : ∀ ts, (sd ts).Sh ts.length) (hsd : SideC en dp c sd) (hsg : OwnS 9 w vs ss) :
  Calls Try.prog 88 ([.pointer (some ⟨b0, 0, none⟩), .func (.func c) #[.pointer (some ⟨b0, 0, none⟩)] #[], vs] : List Value).toArray w fun e w' => RetP (fun k => k = b0) wB b0 en dp (okT w) (onceP en sd ss ts) w e w' := by
 have htl := hts.lenL
 have hR := Fr.refl (fun k => k = b0) w
 have hB := hB0
 refine At.enter (N := 27) Try.func88 rfl rfl (by simp) [(0, .pointer (some ⟨b0, 0, none⟩)), (1, .func (.func c) #[.pointer (some ⟨b0, 0, none⟩)] #[]), (2, vs)] (by simp) ?_
 refine .seq (.region ?_)
 refine At.alloc ze35 rfl (fun b1 w1 F1 => ?_)
 have n_b0_b1 : b0 ≠ b1 := Nat.ne_of_lt (F1.lt hb0)
 have gb1 := Nat.le_trans hR.size (Nat.le_of_eq F1.eq.symm)
 replace hb0 := F1.old hb0
 replace hsg := hsg.fresh F1
 have hb1 : w1.heap[b1]? = some (.cells #[zI, zI, zS, zS, zI, zN, zN, zI, zS, zI, zN, zN, zI, zN, zI, zI, zS, zI, zN, zN, zI] 35) := F1.new
 replace hR := hR.freshF F1
 replace hB := Fr.below hR hB0 hB0.size hSge
 refine .ops0 (.thenN (.seq (.region (.move rfl rfl ?_))))
 have hml1 : MLt w1.heap.size [some b0, some b1] := (MLt.blk hb0 (MLt.blk hb1 (MLt.nil _)))
 refine At.callVP rfl hent rfl rfl (hsd wB b0 ts v _ hB hSge hts hb0 (hbig)) (fun e wp1 hR' => ?_)
 rcases hR'.cases.symm with ⟨ba, bc, hq1, rfl, hF1, hbb⟩ | ⟨x1, us1, val1, vr1, hq1, rfl, hF1, hts1, hbo1, ho1⟩
 ·exact .inr ⟨_, rfl, (Pk.then (Pk.body (RetP.bad (by simp only [onceP, SB, hq1] <;> rfl) (Fr.then hR hF1 (fun k hk => .inl hk)) hbb)))⟩
 refine .inl ⟨_, rfl, ?_⟩
 replace hb1 := Fr.oldB hF1 hb1 (n_b0_b1.symm)
 replace hsg := OwnS.frB hsg hF1 hb0 rfl
 replace hb0 := hbo1
 have hsz1 := hR.size
 replace hR := Fr.then hR hF1 (fun k hk => .inl hk)
 replace hB := Fr.below hR hB0 hB0.size hSge
 obtain ⟨tm1, rfl, htm1, hmt1⟩ := ho1
 have hx1 := Xs.of_new (B := 0) (M := [some b0, some b1]) (K := kTm) htm1 (fun b hb => .inr (hmt1.blk b hb)) (fun _ _ => Nat.zero_le _) hml1
 replace hmt1 := hmt1.mono hsz1
 refine At.alloc ze35 rfl (fun b2 w2 F2 => ?_)
 have n_b0_b2 : b0 ≠ b2 := Nat.ne_of_lt (F2.lt hb0)
 have n_b1_b2 : b1 ≠ b2 := Nat.ne_of_lt (F2.lt hb1)
 have gb2 := Nat.le_trans hR.size (Nat.le_of_eq F2.eq.symm)
 replace hb0 := F2.old hb0
 replace hb1 := F2.old hb1
 replace hsg := hsg.fresh F2
 replace hx1 := Xs.fresh hx1 F2
 have hb2 : w2.heap[b2]? = some (.cells #[zI, zI, zS, zS, zI, zN, zN, zI, zS, zI, zN, zN, zI, zN, zI, zI, zS, zI, zN, zN, zI] 35) := F2.new
 replace hR := hR.freshF F2
 replace hB := Fr.below hR hB0 hB0.size hSge
 refine At.storeAll rfl rfl hb2 (sz35.trans (congrArg some ((Xs.one hx1)).size.symm)) ((Xs.one hx1)).size.symm ((Xs.one hx1)).one (fun w3 S1 => ?_)
 replace hb0 := S1.other hb0 n_b0_b2
 replace hb1 := S1.other hb1 n_b1_b2
 replace hsg := hsg.set S1 (hsg.neT hb2 rfl)
 replace hx1 := Xs.set hx1 S1 (by simp)
 replace hb2 : w3.heap[b2]? = some (.cells tm1.cs 35) := S1.new
 replace hR := hR.setF S1 (.inr gb2)
 replace hB := Fr.below hR hB0 hB0.size hSge
 refine .ops0 (.thenN (.seq (.seq (.region (.move rfl rfl (.nilCheck rfl rfl (.fieldAddr rfl fo81_0 rfl (.move rfl rfl ?_))))))))
 refine At.call en43 rfl rfl (is_any us1 vr1 vs ss _ ((hts1).keep hB) hb0 (((hsg.strs).keep (Below.refl _ _)))) (fun e w4 hR' => ?_)
 obtain ⟨rfl, hbl1⟩ := hR'
 refine ⟨_, rfl, ?_⟩
 replace hb0 := Below.old hbl1 hb0
 replace hb1 := Below.old hbl1 hb1
 replace hb2 := Below.old hbl1 hb2
 replace hsg := hsg.below hbl1
 replace hx1 := Xs.below hx1 hbl1
 replace hR := hR.callF hbl1
 replace hB := Fr.below hR hB0 hB0.size hSge
 refine .ops0 (.thenN ?_)
 refine At.cond (b := (isK en us1 ss)) rfl (fun hc1 => ?_) (fun hc1 => ?_)
 ·skip
  refine .seq (.region (.move rfl rfl (.nilCheck rfl rfl (.fieldAddr rfl fo81_0 rfl ?_))))
  refine At.call en74 rfl rfl (ptake_any us1 vr1 _ hB hSge hts1 hb0 (is_len hc1)) (fun e wp2 hR' => ?_)
  obtain ⟨vr2, rfl, hts2, hbo2, hF2⟩ := hR'
  refine ⟨_, rfl, ?_⟩
  replace hb1 := Fr.oldB hF2 hb1 (n_b0_b1.symm)
  replace hb2 := Fr.oldB hF2 hb2 (n_b0_b2.symm)
  replace hsg := OwnS.frB hsg hF2 hb0 rfl
  replace hx1 := Xs.frS hx1 hF2 (by rintro k rfl; simp)
  replace hb0 := hbo2
  replace hR := Fr.then hR hF2 (fun k hk => .inl hk)
  replace hB := Fr.below hR hB0 hB0.size hSge
  refine .fieldC rfl ft47_1 ag9 (((tk_ok (nx en us1))).c1) rfl (.assign rfl rfl (.ops0 (.thenN (.seq (.drawG (n := 6) mixed (by kernel_rfl) rfl (PanicOk.then (PanicOk.then PanicOk.body)) ?_)))))
  have hR := Fr.drewF hR
  have hB := Below.drewB hB
  have hb0 : _ := (show wp2.drew.heap[b0]? = _ from hb0)
  have hb1 : _ := (show wp2.drew.heap[b1]? = _ from hb1)
  have hb2 : _ := (show wp2.drew.heap[b2]? = _ from hb2)
  have hsg := hsg.drew
  have hx1 := Xs.drew hx1
  refine At.wpcS (i := 0) (d := 21) (.string (bs ((nx en us1).t))) (by kernel_rfl) rfl rfl rfl (fun Lx => ?_) ?_
  ·skip
   refine .move rfl rfl (.ops0 ?_)
   exact fun a ha => ⟨ha, rfl⟩
  refine At.wpcS (i := 1) (d := 22) (.agg tm1.cs) (by kernel_rfl) rfl rfl rfl (fun Lx => ?_) ?_
  ·skip
   refine .load rfl (Ld.own ag35 (sz35.trans (congrArg some ((Xs.one hx1)).size.symm)) hb2) rfl (.ops0 ?_)
   exact fun a ha => ⟨ha, rfl⟩
  refine At.wpcS (i := 2) (d := 23) (.func (.func c) #[.pointer (some ⟨b0, 0, none⟩)] #[]) (by kernel_rfl) rfl rfl rfl (fun Lx => ?_) ?_
  ·skip
   refine .move rfl rfl (.ops0 ?_)
   exact fun a ha => ⟨ha, rfl⟩
  refine At.wpcE [3] (by kernel_rfl) (by kernel_rfl) (.cons [0, 1] rfl (by kernel_rfl) ?_ .nil)
  have hml3 : MLt wp2.drew.heap.size [some b0, some b1, some b2] := (MLt.blk hb0 (MLt.blk hb1 (MLt.blk hb2 (MLt.nil _))))
  refine At.callVP rfl hent rfl rfl (hsd wB b0 us1.tail vr2 _ hB hSge hts2 hb0 (by have hz := hbig; have := PR.Sh.of (hshd ts) hq1; have := tail_len (is_len hc1); omega)) (fun e wp3 hR' => ?_)
  rcases hR'.cases.symm with ⟨ba, bc, hq3, rfl, hF3, hbb⟩ | ⟨x3, us3, val3, vr3, hq3, rfl, hF3, hts3, hbo3, ho3⟩
  ·exact .inr ⟨_, rfl, (Pk.norm (Pk.then (Pk.then (Pk.body (RetP.bad (by simp only [onceP, SB, hc1, hq1, hq3] <;> rfl) (Fr.then hR hF3 (fun k hk => .inl hk)) hbb)))))⟩
  refine .inl ⟨_, rfl, ?_⟩
  replace hb1 := Fr.oldB hF3 hb1 (n_b0_b1.symm)
  replace hb2 := Fr.oldB hF3 hb2 (n_b0_b2.symm)
  replace hsg := OwnS.frB hsg hF3 hb0 rfl
  replace hx1 := Xs.frS hx1 hF3 (by rintro k rfl; simp)
  replace hb0 := hbo3
  have hsz3 := hR.size
  replace hR := Fr.then hR hF3 (fun k hk => .inl hk)
  replace hB := Fr.below hR hB0 hB0.size hSge
  obtain ⟨tm3, rfl, htm3, hmt3⟩ := ho3
  have hx3 := Xs.of_new (B := 0) (M := [some b0, some b1, some b2]) (K := kTm) htm3 (fun b hb => .inr (hmt3.blk b hb)) (fun _ _ => Nat.zero_le _) hml3
  replace hmt3 := hmt3.mono hsz3
  refine .ops0 ?_
  refine At.wpcN (.cons rfl rfl rfl rfl (fun Lx => ?_) (.cons rfl rfl rfl rfl (fun Lx => ?_) .nil)) ?_
  ·skip
   refine .move rfl rfl (.ops0 ?_)
   exact fun a ha => ⟨ha, rfl⟩
  ·skip
   refine .load rfl (Ld.own ag35 (sz35.trans (congrArg some ((Xs.one hx1)).size.symm)) hb2) rfl (.ops0 ?_)
   exact fun a ha => ⟨ha, rfl⟩
  refine At.wpcE [4] (by kernel_rfl) (by kernel_rfl) (.cons [] rfl (by kernel_rfl) ?_ .nil)
  have hml4 : MLt wp3.heap.size [some b0, some b1, some b2] := (MLt.blk hb0 (MLt.blk hb1 (MLt.blk hb2 (MLt.nil _))))
  have hsz4 := hR.size
  refine At.call en95 rfl rfl (two_any (bs ((nx en us1).t)) tm1 tm3 _ (Xs.one hx1) (Xs.one hx3)) (fun e wp4 hR' => ?_)
  obtain ⟨kv4, rfl, hbl4_, hrw4, hge4⟩ := hR'
  refine ⟨_, rfl, ?_⟩
  replace hb0 := Below.old hbl4_ hb0
  replace hb1 := Below.old hbl4_ hb1
  replace hb2 := Below.old hbl4_ hb2
  replace hsg := hsg.below hbl4_
  replace hx1 := Xs.below hx1 hbl4_
  replace hx3 := Xs.below hx3 hbl4_
  replace hR := hR.callF hbl4_
  replace hB := Fr.below hR hB0 hB0.size hSge
  have hx4 : Xs kTm [some b0, some b1, some b2] wp4 [(tmA 10 tm1.at_ (bs ((nx en us1).t)) E0B 0 kv4 [tm1, tm3] zN [])] := Xs.mkT (Xs.cons (Xs.weaken (M' := [some b0, some b1, some b2]) hx1 (SubM.cons (.tail _ (.head _)) (SubM.cons (.tail _ (.tail _ (.head _))) (SubM.cons (.head _) SubM.nil)))) (Xs.cons (Xs.weaken (M' := [some b0, some b1, some b2]) hx3 (SubM.cons (.head _) (SubM.cons (.tail _ (.head _)) (SubM.cons (.tail _ (.tail _ (.head _))) SubM.nil)))) (Xs.nil _ _ _))) (Xs.nil _ _ _) hrw4 (RowsAt.nil _ 23) (fun _ => notin_lt hml4 hge4) (fun h => absurd rfl h)
  have hmt4 : MT w (sTwo (bs ((nx en us1).t)) x1 x3) (tmA 10 tm1.at_ (bs ((nx en us1).t)) E0B 0 kv4 [tm1, tm3] zN []) := MT.atEq (MT.made (MTL.two hmt1 hmt3) (MAL.nil w) (fun _ => Nat.le_trans hsz4 hge4) (fun h => absurd rfl h)) (shT_at hmt1)
  refine .ops0 (.wpcN .nil ?_)
  refine At.wpcE [5] (by kernel_rfl) (by kernel_rfl) (.cons [] rfl (by kernel_rfl) ?_ .nil)
  refine At.storeAll rfl rfl hb1 (sz35.trans (congrArg some ((Xs.one hx4)).size.symm)) ((Xs.one hx4)).size.symm ((Xs.one hx4)).one (fun w5 S2 => ?_)
  replace hb0 := S2.other hb0 n_b0_b1
  replace hb2 := S2.other hb2 n_b1_b2.symm
  replace hsg := hsg.set S2 (hsg.neT hb1 rfl)
  replace hx1 := Xs.set hx1 S2 (by simp)
  replace hx3 := Xs.set hx3 S2 (by simp)
  replace hx4 := Xs.set hx4 S2 (by simp)
  replace hb1 : w5.heap[b1]? = some (.cells (tmA 10 tm1.at_ (bs ((nx en us1).t)) E0B 0 kv4 [tm1, tm3] zN []).cs 35) := S2.new
  replace hR := hR.setF S2 (.inr gb1)
  replace hB := Fr.below hR hB0 hB0.size hSge
  refine .ops0 (.wpcN .nil (.wpcZ (.thenN (.retc (.thenR (.doneR (ResV.cell rfl (Ld.own ag35 (sz35.trans (congrArg some ((Xs.one hx4)).size.symm)) hb1) ResV.nil) ?_))))))
  exact RetP.ok (x := (sTwo (bs ((nx en us1).t)) x1 x3)) (by simp only [onceP, SB, hc1, hq1, hq3] <;> rfl) hR hts3 hb0 ⟨(tmA 10 tm1.at_ (bs ((nx en us1).t)) E0B 0 kv4 [tm1, tm3] zN []), rfl, (Xs.one hx4), hmt4⟩
 ·skip
  refine .skip (.thenN (.seq (.region (.load rfl (Ld.own ag35 (sz35.trans (congrArg some ((Xs.one hx1)).size.symm)) hb2) rfl ?_))))
  refine At.storeAll rfl rfl hb1 (sz35.trans (congrArg some ((Xs.one hx1)).size.symm)) ((Xs.one hx1)).size.symm ((Xs.one hx1)).one (fun w6 S3 => ?_)
  replace hb0 := S3.other hb0 n_b0_b1
  replace hb2 := S3.other hb2 n_b1_b2.symm
  replace hsg := hsg.set S3 (hsg.neT hb1 rfl)
  replace hx1 := Xs.set hx1 S3 (by simp)
  replace hb1 : w6.heap[b1]? = some (.cells tm1.cs 35) := S3.new
  replace hR := hR.setF S3 (.inr gb1)
  replace hB := Fr.below hR hB0 hB0.size hSge
  refine .ops0 (.thenN (.retc (.doneR (ResV.cell rfl (Ld.own ag35 (sz35.trans (congrArg some ((Xs.one hx1)).size.symm)) hb1) ResV.nil) ?_)))
  exact RetP.ok (x := x1) (by simp only [onceP, SB, hc1, hq1] <;> rfl) hR hts1 hb0 ⟨tm1, rfl, (Xs.one hx1), hmt1⟩
theorem many_any {wB : World} {b0 : Nat} {en dp : Int} (ts : List Tk) (v : Value) (c : FuncId) (sd : List Tk → PR ST) (vs : Value) (ss : List ByteArray) (w : World) (hB0 : Below wB.heap.size wB w) (hSge : ∀ k, k = b0 → wB.heap.size ≤ k) (hts : RowsAt wB v 4 (ts.map Tk.cs)) (hb0 : w.heap[b0]? = some (.cells #[v, .int .i64 en, .int .i64 dp] 81)) (hbig : ts.length ≤ 100000000) (hent : entB Try.prog c = true) (hshd : ∀ ts, (sd ts).Sh ts.length) (hsd : SideC en dp c sd) (hsg : OwnS 9 w vs ss) :
  Calls Try.prog 100 ([.pointer (some ⟨b0, 0, none⟩), .func (.func c) #[.pointer (some ⟨b0, 0, none⟩)] #[], vs] : List Value).toArray w fun e w' => RetP (fun k => k = b0) wB b0 en dp (okT w) (manyP en sd ss ts) w e w' := by
 have htl := hts.lenL
 have hR := Fr.refl (fun k => k = b0) w
 have hB := hB0
 refine At.enter (N := 27) Try.func100 rfl rfl (by simp) [(0, .pointer (some ⟨b0, 0, none⟩)), (1, .func (.func c) #[.pointer (some ⟨b0, 0, none⟩)] #[]), (2, vs)] (by simp) ?_
 refine .seq (.region ?_)
 refine At.alloc ze35 rfl (fun b1 w1 F1 => ?_)
 have n_b0_b1 : b0 ≠ b1 := Nat.ne_of_lt (F1.lt hb0)
 have gb1 := Nat.le_trans hR.size (Nat.le_of_eq F1.eq.symm)
 replace hb0 := F1.old hb0
 replace hsg := hsg.fresh F1
 have hb1 : w1.heap[b1]? = some (.cells #[zI, zI, zS, zS, zI, zN, zN, zI, zS, zI, zN, zN, zI, zN, zI, zI, zS, zI, zN, zN, zI] 35) := F1.new
 replace hR := hR.freshF F1
 replace hB := Fr.below hR hB0 hB0.size hSge
 refine .ops0 (.thenN (.seq (.region (.move rfl rfl ?_))))
 have hml1 : MLt w1.heap.size [some b0, some b1] := (MLt.blk hb0 (MLt.blk hb1 (MLt.nil _)))
 refine At.callVP rfl hent rfl rfl (hsd wB b0 ts v _ hB hSge hts hb0 (hbig)) (fun e wp1 hR' => ?_)
 rcases hR'.cases.symm with ⟨ba, bc, hq1, rfl, hF1, hbb⟩ | ⟨x1, us1, val1, vr1, hq1, rfl, hF1, hts1, hbo1, ho1⟩
 ·exact .inr ⟨_, rfl, (Pk.then (Pk.body (RetP.bad (by simp only [manyP, SB, hq1] <;> rfl) (Fr.then hR hF1 (fun k hk => .inl hk)) hbb)))⟩
 refine .inl ⟨_, rfl, ?_⟩
 replace hb1 := Fr.oldB hF1 hb1 (n_b0_b1.symm)
 replace hsg := OwnS.frB hsg hF1 hb0 rfl
 replace hb0 := hbo1
 have hsz1 := hR.size
 replace hR := Fr.then hR hF1 (fun k hk => .inl hk)
 replace hB := Fr.below hR hB0 hB0.size hSge
 obtain ⟨tm1, rfl, htm1, hmt1⟩ := ho1
 have hx1 := Xs.of_new (B := 0) (M := [some b0, some b1]) (K := kTm) htm1 (fun b hb => .inr (hmt1.blk b hb)) (fun _ _ => Nat.zero_le _) hml1
 replace hmt1 := hmt1.mono hsz1
 refine At.alloc ze35 rfl (fun b2 w2 F2 => ?_)
 have n_b0_b2 : b0 ≠ b2 := Nat.ne_of_lt (F2.lt hb0)
 have n_b1_b2 : b1 ≠ b2 := Nat.ne_of_lt (F2.lt hb1)
 have gb2 := Nat.le_trans hR.size (Nat.le_of_eq F2.eq.symm)
 replace hb0 := F2.old hb0
 replace hb1 := F2.old hb1
 replace hsg := hsg.fresh F2
 replace hx1 := Xs.fresh hx1 F2
 have hb2 : w2.heap[b2]? = some (.cells #[zI, zI, zS, zS, zI, zN, zN, zI, zS, zI, zN, zN, zI, zN, zI, zI, zS, zI, zN, zN, zI] 35) := F2.new
 replace hR := hR.freshF F2
 replace hB := Fr.below hR hB0 hB0.size hSge
 refine At.storeAll rfl rfl hb2 (sz35.trans (congrArg some ((Xs.one hx1)).size.symm)) ((Xs.one hx1)).size.symm ((Xs.one hx1)).one (fun w3 S1 => ?_)
 replace hb0 := S1.other hb0 n_b0_b2
 replace hb1 := S1.other hb1 n_b1_b2
 replace hsg := hsg.set S1 (hsg.neT hb2 rfl)
 replace hx1 := Xs.set hx1 S1 (by simp)
 replace hb2 : w3.heap[b2]? = some (.cells tm1.cs 35) := S1.new
 replace hR := hR.setF S1 (.inr gb2)
 replace hB := Fr.below hR hB0 hB0.size hSge
 refine .ops0 (.thenN (.seq (.block ?_)))
 refine At.loop (List Tk × Value × Nat × Tm × ST) (fun (us, vr, f, tx, xs) => [(0, .pointer (some ⟨b0, 0, none⟩)), (1, .func (.func c) #[.pointer (some ⟨b0, 0, none⟩)] #[]), (2, vs), (6, .pointer (some ⟨b1, 0, none⟩)), (7, .pointer (some ⟨b2, 0, none⟩))]) (fun (us, vr, f, tx, xs) w4 => Fr (fun k => k = b0) w w4 ∧ w4.heap[b0]? = some (.cells #[vr, .int .i64 en, .int .i64 dp] 81) ∧ w4.heap[b1]? = some (.cells #[zI, zI, zS, zS, zI, zN, zN, zI, zS, zI, zN, zN, zI, zN, zI, zI, zS, zI, zN, zN, zI] 35) ∧ w4.heap[b2]? = some (.cells tx.cs 35) ∧ OwnS 9 w4 vs ss ∧ Xs kTm [some b0, some b1, some b2] w4 [tx] ∧ (RowsAt wB vr 4 (us.map Tk.cs)) ∧ (manyP en sd ss ts = manyL en sd ss f xs us) ∧ (us.length < f) ∧ (MT w xs tx) ∧ (us.length ≤ ts.length)) (fun (us, vr, f, tx, xs) => f) (us1, vr1, (us1.length + 1), tm1, x1) (Sub.cons rfl (Sub.cons rfl (Sub.cons rfl (Sub.cons rfl (Sub.cons rfl Sub.nil))))) ⟨hR, hb0, hb1, hb2, hsg, (Xs.weaken (M' := [some b0, some b1, some b2]) hx1 (SubM.cons (.tail _ (.head _)) (SubM.cons (.tail _ (.tail _ (.head _))) (SubM.cons (.head _) SubM.nil)))), (hts1), (by simp only [manyP, hq1, PR.bind_ok]), (Nat.lt_succ_self _), (hmt1), (Nat.le_of_lt (PR.Sh.of (hshd ts) hq1))⟩ (fun gh w4 hI => ?_)
 obtain ⟨us, vr, f, tx, xs⟩ := gh
 clear hR hB hb0 hb1 hb2 hsg hx1
 obtain ⟨hR, hb0, hb1, hb2, hsg, hxx, hus, hs, hfl, hmx, hle⟩ := hI
 have hB := Fr.below hR hB0 hB0.size hSge
 show At _ _ [(0, .pointer (some ⟨b0, 0, none⟩)), (1, .func (.func c) #[.pointer (some ⟨b0, 0, none⟩)] #[]), (2, vs), (6, .pointer (some ⟨b1, 0, none⟩)), (7, .pointer (some ⟨b2, 0, none⟩))] _ _
 refine .seq (.seq (.region (.move rfl rfl (.nilCheck rfl rfl (.fieldAddr rfl fo81_0 rfl (.move rfl rfl ?_))))))
 refine At.call en43 rfl rfl (is_any us vr vs ss _ ((hus).keep hB) hb0 (((hsg.strs).keep (Below.refl _ _)))) (fun e w5 hR' => ?_)
 obtain ⟨rfl, hbl1⟩ := hR'
 refine ⟨_, rfl, ?_⟩
 replace hb0 := Below.old hbl1 hb0
 replace hb1 := Below.old hbl1 hb1
 replace hb2 := Below.old hbl1 hb2
 replace hsg := hsg.below hbl1
 replace hxx := Xs.below hxx hbl1
 replace hR := hR.callF hbl1
 replace hB := Fr.below hR hB0 hB0.size hSge
 refine .ops0 (.thenN ?_)
 refine At.cond (b := (isK en us ss)) rfl (fun hc1 => ?_) (fun hc1 => ?_)
 ·skip
  refine .skip (.thenN (.block (.seq (.region (.move rfl rfl (.nilCheck rfl rfl (.fieldAddr rfl fo81_0 rfl ?_)))))))
  refine At.call en74 rfl rfl (ptake_any us vr _ hB hSge hus hb0 (is_len hc1)) (fun e wp2 hR' => ?_)
  obtain ⟨vr2, rfl, hts2, hbo2, hF2⟩ := hR'
  refine ⟨_, rfl, ?_⟩
  replace hb1 := Fr.oldB hF2 hb1 (n_b0_b1.symm)
  replace hb2 := Fr.oldB hF2 hb2 (n_b0_b2.symm)
  replace hsg := OwnS.frB hsg hF2 hb0 rfl
  replace hxx := Xs.frS hxx hF2 (by rintro k rfl; simp)
  replace hb0 := hbo2
  replace hR := Fr.then hR hF2 (fun k hk => .inl hk)
  replace hB := Fr.below hR hB0 hB0.size hSge
  refine .fieldC rfl ft47_1 ag9 (((tk_ok (nx en us))).c1) rfl (.assign rfl rfl (.ops0 (.thenN (.drawG (n := 6) mixed (by kernel_rfl) rfl (PanicOk.block (PanicOk.then (PanicOk.block (PanicOk.then PanicOk.body)))) ?_))))
  have hR := Fr.drewF hR
  have hB := Below.drewB hB
  have hb0 : _ := (show wp2.drew.heap[b0]? = _ from hb0)
  have hb1 : _ := (show wp2.drew.heap[b1]? = _ from hb1)
  have hb2 : _ := (show wp2.drew.heap[b2]? = _ from hb2)
  have hsg := hsg.drew
  have hxx := Xs.drew hxx
  refine At.wpcS (i := 0) (d := 21) (.string (bs ((nx en us).t))) (by kernel_rfl) rfl rfl rfl (fun Lx => ?_) ?_
  ·skip
   refine .move rfl rfl (.ops0 ?_)
   exact fun a ha => ⟨ha, rfl⟩
  refine At.wpcS (i := 1) (d := 22) (.agg tx.cs) (by kernel_rfl) rfl rfl rfl (fun Lx => ?_) ?_
  ·skip
   refine .load rfl (Ld.own ag35 (sz35.trans (congrArg some ((Xs.one hxx)).size.symm)) hb2) rfl (.ops0 ?_)
   exact fun a ha => ⟨ha, rfl⟩
  refine At.wpcS (i := 2) (d := 23) (.func (.func c) #[.pointer (some ⟨b0, 0, none⟩)] #[]) (by kernel_rfl) rfl rfl rfl (fun Lx => ?_) ?_
  ·skip
   refine .move rfl rfl (.ops0 ?_)
   exact fun a ha => ⟨ha, rfl⟩
  refine At.wpcE [3] (by kernel_rfl) (by kernel_rfl) (.cons [0, 1] rfl (by kernel_rfl) ?_ .nil)
  have hml3 : MLt wp2.drew.heap.size [some b0, some b1, some b2] := (MLt.blk hb0 (MLt.blk hb1 (MLt.blk hb2 (MLt.nil _))))
  refine At.callVP rfl hent rfl rfl (hsd wB b0 us.tail vr2 _ hB hSge hts2 hb0 (by have hz := hbig; have := hle; have := tail_len (is_len hc1); omega)) (fun e wp3 hR' => ?_)
  rcases hR'.cases.symm with ⟨ba, bc, hq3, rfl, hF3, hbb⟩ | ⟨x3, us3, val3, vr3, hq3, rfl, hF3, hts3, hbo3, ho3⟩
  ·exact .inr ⟨_, rfl, (Pk.norm (Pk.block (Pk.then (Pk.block (Pk.then (Pk.body (RetP.bad (by obtain ⟨q, rfl⟩ : ∃ q, f = q + 1 := ⟨f - 1, by omega⟩; rw [hs, manyL]; simp only [manyP, SB, hc1, hq1, hq3] <;> rfl) (Fr.then hR hF3 (fun k hk => .inl hk)) hbb)))))))⟩
  refine .inl ⟨_, rfl, ?_⟩
  replace hb1 := Fr.oldB hF3 hb1 (n_b0_b1.symm)
  replace hb2 := Fr.oldB hF3 hb2 (n_b0_b2.symm)
  replace hsg := OwnS.frB hsg hF3 hb0 rfl
  replace hxx := Xs.frS hxx hF3 (by rintro k rfl; simp)
  replace hb0 := hbo3
  have hsz3 := hR.size
  replace hR := Fr.then hR hF3 (fun k hk => .inl hk)
  replace hB := Fr.below hR hB0 hB0.size hSge
  obtain ⟨tm3, rfl, htm3, hmt3⟩ := ho3
  have hx3 := Xs.of_new (B := 0) (M := [some b0, some b1, some b2]) (K := kTm) htm3 (fun b hb => .inr (hmt3.blk b hb)) (fun _ _ => Nat.zero_le _) hml3
  replace hmt3 := hmt3.mono hsz3
  refine .ops0 ?_
  refine At.wpcN (.cons rfl rfl rfl rfl (fun Lx => ?_) (.cons rfl rfl rfl rfl (fun Lx => ?_) .nil)) ?_
  ·skip
   refine .move rfl rfl (.ops0 ?_)
   exact fun a ha => ⟨ha, rfl⟩
  ·skip
   refine .load rfl (Ld.own ag35 (sz35.trans (congrArg some ((Xs.one hxx)).size.symm)) hb2) rfl (.ops0 ?_)
   exact fun a ha => ⟨ha, rfl⟩
  refine At.wpcE [4] (by kernel_rfl) (by kernel_rfl) (.cons [] rfl (by kernel_rfl) ?_ .nil)
  have hml4 : MLt wp3.heap.size [some b0, some b1, some b2] := (MLt.blk hb0 (MLt.blk hb1 (MLt.blk hb2 (MLt.nil _))))
  have hsz4 := hR.size
  refine At.call en95 rfl rfl (two_any (bs ((nx en us).t)) tx tm3 _ (Xs.one hxx) (Xs.one hx3)) (fun e wp4 hR' => ?_)
  obtain ⟨kv4, rfl, hbl4_, hrw4, hge4⟩ := hR'
  refine ⟨_, rfl, ?_⟩
  replace hb0 := Below.old hbl4_ hb0
  replace hb1 := Below.old hbl4_ hb1
  replace hb2 := Below.old hbl4_ hb2
  replace hsg := hsg.below hbl4_
  replace hxx := Xs.below hxx hbl4_
  replace hx3 := Xs.below hx3 hbl4_
  replace hR := hR.callF hbl4_
  replace hB := Fr.below hR hB0 hB0.size hSge
  have hx4 : Xs kTm [some b0, some b1, some b2] wp4 [(tmA 10 tx.at_ (bs ((nx en us).t)) E0B 0 kv4 [tx, tm3] zN [])] := Xs.mkT (Xs.cons (Xs.weaken (M' := [some b0, some b1, some b2]) hxx (SubM.cons (.head _) (SubM.cons (.tail _ (.head _)) (SubM.cons (.tail _ (.tail _ (.head _))) SubM.nil)))) (Xs.cons (Xs.weaken (M' := [some b0, some b1, some b2]) hx3 (SubM.cons (.head _) (SubM.cons (.tail _ (.head _)) (SubM.cons (.tail _ (.tail _ (.head _))) SubM.nil)))) (Xs.nil _ _ _))) (Xs.nil _ _ _) hrw4 (RowsAt.nil _ 23) (fun _ => notin_lt hml4 hge4) (fun h => absurd rfl h)
  have hmt4 : MT w (sTwo (bs ((nx en us).t)) xs x3) (tmA 10 tx.at_ (bs ((nx en us).t)) E0B 0 kv4 [tx, tm3] zN []) := MT.atEq (MT.made (MTL.two hmx hmt3) (MAL.nil w) (fun _ => Nat.le_trans hsz4 hge4) (fun h => absurd rfl h)) (shT_at hmx)
  refine .ops0 (.wpcN .nil ?_)
  refine At.wpcE [5] (by kernel_rfl) (by kernel_rfl) (.cons [] rfl (by kernel_rfl) ?_ .nil)
  refine At.storeAll rfl rfl hb2 (sz35.trans (congrArg some ((Xs.one hx4)).size.symm)) (((Xs.one hxx)).size.trans ((Xs.one hx4)).size.symm) ((Xs.one hx4)).one (fun w6 S2 => ?_)
  replace hb0 := S2.other hb0 n_b0_b2
  replace hb1 := S2.other hb1 n_b1_b2
  replace hsg := hsg.set S2 (hsg.neT hb2 rfl)
  replace hxx := Xs.set hxx S2 (by simp)
  replace hx3 := Xs.set hx3 S2 (by simp)
  replace hx4 := Xs.set hx4 S2 (by simp)
  replace hb2 : w6.heap[b2]? = some (.cells (tmA 10 tx.at_ (bs ((nx en us).t)) E0B 0 kv4 [tx, tm3] zN []).cs 35) := S2.new
  replace hR := hR.setF S2 (.inr gb2)
  replace hB := Fr.below hR hB0 hB0.size hSge
  refine .ops0 (.wpcN .nil (.wpcZ (.inN (.thenN ?_))))
  exact fun act_ hact_ => ⟨(us3, vr3, (f - 1), (tmA 10 tx.at_ (bs ((nx en us).t)) E0B 0 kv4 [tx, tm3] zN []), (sTwo (bs ((nx en us).t)) xs x3)), hact_.sub (Sub.cons rfl (Sub.cons rfl (Sub.cons rfl (Sub.cons rfl (Sub.cons rfl Sub.nil))))), ⟨hR, hb0, hb1, hb2, hsg, (Xs.weaken (M' := [some b0, some b1, some b2]) hx4 (SubM.cons (.head _) (SubM.cons (.tail _ (.head _)) (SubM.cons (.tail _ (.tail _ (.head _))) SubM.nil)))), (hts3), (by obtain ⟨q, rfl⟩ : ∃ q, f = q + 1 := ⟨f - 1, by omega⟩; rw [hs, manyL]; simp only [hc1, hq1, hq3, cond_true, PR.bind_ok]; rfl), (by have := hle; have := tail_len (is_len hc1); have := PR.Sh.of (hshd us.tail) hq3; omega), (hmt4), (by have := hle; have := tail_len (is_len hc1); have := PR.Sh.of (hshd us.tail) hq3; omega)⟩, by first | omega | (dsimp only; omega)⟩
 ·skip
  refine .exit (.thenE (.thenE (.inE (.thenN (.seq (.region (.load rfl (Ld.own ag35 (sz35.trans (congrArg some ((Xs.one hxx)).size.symm)) hb2) rfl ?_)))))))
  refine At.storeAll rfl rfl hb1 (sz35.trans (congrArg some ((Xs.one hxx)).size.symm)) ((Xs.one hxx)).size.symm ((Xs.one hxx)).one (fun w7 S3 => ?_)
  replace hb0 := S3.other hb0 n_b0_b1
  replace hb2 := S3.other hb2 n_b1_b2.symm
  replace hsg := hsg.set S3 (hsg.neT hb1 rfl)
  replace hxx := Xs.set hxx S3 (by simp)
  replace hb1 : w7.heap[b1]? = some (.cells tx.cs 35) := S3.new
  replace hR := hR.setF S3 (.inr gb1)
  replace hB := Fr.below hR hB0 hB0.size hSge
  refine .ops0 (.thenN (.retc (.doneR (ResV.cell rfl (Ld.own ag35 (sz35.trans (congrArg some ((Xs.one hxx)).size.symm)) hb1) ResV.nil) ?_)))
  exact RetP.ok (x := xs) (by obtain ⟨q, rfl⟩ : ∃ q, f = q + 1 := ⟨f - 1, by omega⟩; rw [hs, manyL]; simp only [manyP, SB, hc1, hq1] <;> rfl) hR hus hb0 ⟨tx, rfl, (Xs.one hxx), hmx⟩
theorem body_any {wB : World} {b0 : Nat} {en dp : Int} (ts : List Tk) (v : Value) (ex : List Tk → PR ST) (w : World) (hB0 : Below wB.heap.size wB w) (hSge : ∀ k, k = b0 → wB.heap.size ≤ k) (hts : RowsAt wB v 4 (ts.map Tk.cs)) (hb0 : w.heap[b0]? = some (.cells #[v, .int .i64 en, .int .i64 dp] 81)) (hbig : ts.length ≤ 100000000) (hxs : ∀ ts, (ex ts).Sh ts.length) (hex : ExC en dp ex) :
  Calls Try.prog 87 ([.pointer (some ⟨b0, 0, none⟩)] : List Value).toArray w fun e w' => RetP (fun k => k = b0) wB b0 en dp (okT w) (bodyP en ex ts) w e w' := by
 have htl := hts.lenL
 have hR := Fr.refl (fun k => k = b0) w
 have hB := hB0
 refine At.enter (N := 8) Try.func87 rfl rfl (by simp) [(0, .pointer (some ⟨b0, 0, none⟩))] (by simp) ?_
 refine .seq (.region ?_)
 refine At.alloc ze35 rfl (fun b1 w1 F1 => ?_)
 have n_b0_b1 : b0 ≠ b1 := Nat.ne_of_lt (F1.lt hb0)
 have gb1 := Nat.le_trans hR.size (Nat.le_of_eq F1.eq.symm)
 replace hb0 := F1.old hb0
 have hb1 : w1.heap[b1]? = some (.cells #[zI, zI, zS, zS, zI, zN, zN, zI, zS, zI, zN, zN, zI, zN, zI, zI, zS, zI, zN, zN, zI] 35) := F1.new
 replace hR := hR.freshF F1
 replace hB := Fr.below hR hB0 hB0.size hSge
 refine .ops0 (.thenN (.seq (.region (.move rfl rfl ?_))))
 refine At.buildSlice (xs := [.const (.string (⟨#[45, 62]⟩ : ByteArray))]) rfl rfl el29 sz9 ze9 (by intro v hv; simp only [List.mem_cons, List.not_mem_nil, or_false] at hv; rcases hv with rfl <;> first | rfl | simp [Value.cells]) rfl (by decide) rfl (fun b2 w2 F2 => ?_)
 have n_b0_b2 : b0 ≠ b2 := Nat.ne_of_lt (F2.lt hb0)
 have n_b1_b2 : b1 ≠ b2 := Nat.ne_of_lt (F2.lt hb1)
 have gb2 := Nat.le_trans hR.size (Nat.le_of_eq F2.eq.symm)
 replace hb0 := F2.old hb0
 replace hb1 := F2.old hb1
 have hb2 : w2.heap[b2]? = some (.cells #[.string (⟨#[45, 62]⟩ : ByteArray)] 9) := F2.new
 replace hR := hR.freshF F2
 replace hB := Fr.below hR hB0 hB0.size hSge
 refine At.callP en65 rfl rfl (ptext_any ts v (.slice (some ⟨b2, 0, none⟩) 1 1) ([(⟨#[45, 62]⟩ : ByteArray)]) _ hB hSge hts hb0 ((StrsAt.own (ss := [(⟨#[45, 62]⟩ : ByteArray)]) hb2 rfl (by decide) : StrsAt _ (.slice (some ⟨b2, 0, none⟩) 1 1) [(⟨#[45, 62]⟩ : ByteArray)])) (fun _ => show b2 ≠ b0 from n_b0_b2.symm)) (fun e wp1 hR' => ?_)
 rcases hR'.cases.symm with ⟨ba, bc, hq1, rfl, hF1, hbb⟩ | ⟨x1, us1, val1, vr1, hq1, rfl, hF1, hts1, hbo1, ho1⟩
 ·exact .inr ⟨_, rfl, (Pk.then (Pk.body (RetP.bad (by simp only [bodyP, SB, hq1] <;> rfl) (Fr.then hR hF1 (fun k hk => .inl hk)) hbb)))⟩
 refine .inl ⟨_, rfl, ?_⟩
 replace hb1 := Fr.oldB hF1 hb1 (n_b0_b1.symm)
 replace hb2 := Fr.oldB hF1 hb2 (n_b0_b2.symm)
 replace hb0 := hbo1
 have hsz1 := hR.size
 replace hR := Fr.then hR hF1 (fun k hk => .inl hk)
 replace hB := Fr.below hR hB0 hB0.size hSge
 obtain rfl := ho1
 refine .ops0 (.thenN (.seq (.region (.move rfl rfl ?_))))
 have hml2 : MLt wp1.heap.size [some b0, some b1, some b2] := (MLt.blk hb0 (MLt.blk hb1 (MLt.blk hb2 (MLt.nil _))))
 refine At.callP en46 rfl rfl (hex wB b0 us1 vr1 _ hB hSge hts1 hb0 (by have hz := hbig; have := PR.Le.of (text_le en ([(⟨#[45, 62]⟩ : ByteArray)]) ts) hq1; omega)) (fun e wp2 hR' => ?_)
 rcases hR'.cases.symm with ⟨ba, bc, hq2, rfl, hF2, hbb⟩ | ⟨x2, us2, val2, vr2, hq2, rfl, hF2, hts2, hbo2, ho2⟩
 ·exact .inr ⟨_, rfl, (Pk.then (Pk.body (RetP.bad (by simp only [bodyP, SB, hq1, hq2] <;> rfl) (Fr.then hR hF2 (fun k hk => .inl hk)) hbb)))⟩
 refine .inl ⟨_, rfl, ?_⟩
 replace hb1 := Fr.oldB hF2 hb1 (n_b0_b1.symm)
 replace hb2 := Fr.oldB hF2 hb2 (n_b0_b2.symm)
 replace hb0 := hbo2
 have hsz2 := hR.size
 replace hR := Fr.then hR hF2 (fun k hk => .inl hk)
 replace hB := Fr.below hR hB0 hB0.size hSge
 obtain ⟨tm2, rfl, htm2, hmt2⟩ := ho2
 have hx2 := Xs.of_new (B := 0) (M := [some b0, some b1, some b2]) (K := kTm) htm2 (fun b hb => .inr (hmt2.blk b hb)) (fun _ _ => Nat.zero_le _) hml2
 replace hmt2 := hmt2.mono hsz2
 refine At.storeAll rfl rfl hb1 (sz35.trans (congrArg some ((Xs.one hx2)).size.symm)) ((Xs.one hx2)).size.symm ((Xs.one hx2)).one (fun w3 S1 => ?_)
 replace hb0 := S1.other hb0 n_b0_b1
 replace hb2 := S1.other hb2 n_b1_b2.symm
 replace hx2 := Xs.set hx2 S1 (by simp)
 replace hb1 : w3.heap[b1]? = some (.cells tm2.cs 35) := S1.new
 replace hR := hR.setF S1 (.inr gb1)
 replace hB := Fr.below hR hB0 hB0.size hSge
 refine .ops0 (.thenN (.retc (.doneR (ResV.cell rfl (Ld.own ag35 (sz35.trans (congrArg some ((Xs.one hx2)).size.symm)) hb1) ResV.nil) ?_)))
 exact RetP.ok (x := x2) (by simp only [bodyP, SB, hq1, hq2] <;> rfl) hR hts2 hb0 ⟨tm2, rfl, (Xs.one hx2), hmt2⟩
theorem way_any {wB : World} {b0 : Nat} {en dp : Int} (ts : List Tk) (v : Value) (ex : List Tk → PR ST) (w : World) (hB0 : Below wB.heap.size wB w) (hSge : ∀ k, k = b0 → wB.heap.size ≤ k) (hts : RowsAt wB v 4 (ts.map Tk.cs)) (hb0 : w.heap[b0]? = some (.cells #[v, .int .i64 en, .int .i64 dp] 81)) (hbig : ts.length ≤ 100000000) (hxs : ∀ ts, (ex ts).Sh ts.length) (hex : ExC en dp ex) :
  Calls Try.prog 77 ([.pointer (some ⟨b0, 0, none⟩)] : List Value).toArray w fun e w' => RetP (fun k => k = b0) wB b0 en dp (okA w) (wayP en ex ts) w e w' := by
 have htl := hts.lenL
 have hR := Fr.refl (fun k => k = b0) w
 have hB := hB0
 refine At.enter (N := 27) Try.func77 rfl rfl (by simp) [(0, .pointer (some ⟨b0, 0, none⟩))] (by simp) ?_
 refine .seq (.region ?_)
 refine At.alloc ze61 rfl (fun b1 w1 F1 => ?_)
 have n_b0_b1 : b0 ≠ b1 := Nat.ne_of_lt (F1.lt hb0)
 have gb1 := Nat.le_trans hR.size (Nat.le_of_eq F1.eq.symm)
 replace hb0 := F1.old hb0
 have hb1 : w1.heap[b1]? = some (.cells #[zS, zN, zI, zI, zS, zS, zI, zN, zN, zI, zS, zI, zN, zN, zI, zN, zI, zI, zS, zI, zN, zN, zI] 61) := F1.new
 replace hR := hR.freshF F1
 replace hB := Fr.below hR hB0 hB0.size hSge
 refine .ops0 (.thenN (.seq (.region (.move rfl rfl ?_))))
 refine At.callP en66 rfl rfl (word_any ts v 3 _ hB hSge hts hb0 (by decide)) (fun e wp1 hR' => ?_)
 rcases hR'.cases.symm with ⟨ba, bc, hq1, rfl, hF1, hbb⟩ | ⟨x1, us1, val1, vr1, hq1, rfl, hF1, hts1, hbo1, ho1⟩
 ·exact .inr ⟨_, rfl, (Pk.then (Pk.body (RetP.bad (by simp only [wayP, SB, hq1] <;> rfl) (Fr.then hR hF1 (fun k hk => .inl hk)) hbb)))⟩
 refine .inl ⟨_, rfl, ?_⟩
 replace hb1 := Fr.oldB hF1 hb1 (n_b0_b1.symm)
 replace hb0 := hbo1
 have hsz1 := hR.size
 replace hR := Fr.then hR hF1 (fun k hk => .inl hk)
 replace hB := Fr.below hR hB0 hB0.size hSge
 obtain rfl := ho1
 refine .fieldC rfl ft47_1 ag9 (((tk_ok x1)).c1) rfl (.build (C := #[.string (bs x1.t), zN, zI, zI, zS, zS, zI, zN, zN, zI, zS, zI, zN, zN, zI, zN, zI, zI, zS, zI, zN, zN, zI]) sd61 ze61 rfl (Bld.cons fo61_0 rfl (by first | decide | exact Nat.le_of_ble_eq_true rfl) (Bld.nil _)) rfl ?_)
 refine At.alloc ze61 rfl (fun b2 w2 F2 => ?_)
 have n_b0_b2 : b0 ≠ b2 := Nat.ne_of_lt (F2.lt hb0)
 have n_b1_b2 : b1 ≠ b2 := Nat.ne_of_lt (F2.lt hb1)
 have gb2 := Nat.le_trans hR.size (Nat.le_of_eq F2.eq.symm)
 replace hb0 := F2.old hb0
 replace hb1 := F2.old hb1
 have hb2 : w2.heap[b2]? = some (.cells #[zS, zN, zI, zI, zS, zS, zI, zN, zN, zI, zS, zI, zN, zN, zI, zN, zI, zI, zS, zI, zN, zN, zI] 61) := F2.new
 replace hR := hR.freshF F2
 replace hB := Fr.below hR hB0 hB0.size hSge
 refine At.storeAll rfl rfl hb2 sz61 rfl (by first | (simp [Value.oneCell', ((SlOk.nil)).one]; done) | (simp only [List.all_toArray, List.all_cons, List.all_nil, ((SlOk.nil)).one, Bool.and_true, Bool.true_and]; rfl)) (fun w3 S1 => ?_)
 replace hb0 := S1.other hb0 n_b0_b2
 replace hb1 := S1.other hb1 n_b1_b2
 replace hb2 : w3.heap[b2]? = some (.cells #[.string (bs x1.t), zN, zI, zI, zS, zS, zI, zN, zN, zI, zS, zI, zN, zN, zI, zN, zI, zI, zS, zI, zN, zN, zI] 61) := S1.new
 replace hR := hR.setF S1 (.inr gb2)
 replace hB := Fr.below hR hB0 hB0.size hSge
 refine .ops0 (.thenN (.seq (.block ?_)))
 refine At.loop (List Tk × Value × Nat × Value × List ByteArray) (fun (us, vr, f, vv, lv) => [(0, .pointer (some ⟨b0, 0, none⟩)), (2, .pointer (some ⟨b1, 0, none⟩)), (3, .pointer (some ⟨b2, 0, none⟩))]) (fun (us, vr, f, vv, lv) w4 => Fr (fun k => k = b0) w w4 ∧ w4.heap[b0]? = some (.cells #[vr, .int .i64 en, .int .i64 dp] 81) ∧ w4.heap[b1]? = some (.cells #[zS, zN, zI, zI, zS, zS, zI, zN, zN, zI, zS, zI, zN, zN, zI, zN, zI, zI, zS, zI, zN, zN, zI] 61) ∧ w4.heap[b2]? = some (.cells #[.string (bs x1.t), vv, zI, zI, zS, zS, zI, zN, zN, zI, zS, zI, zN, zN, zI, zN, zI, zI, zS, zI, zN, zN, zI] 61) ∧ OwnS 9 w4 vv lv ∧ (RowsAt wB vr 4 (us.map Tk.cs)) ∧ (wayP en ex ts = (varsP en f lv us).bind fun vs ts => (bodyP en ex ts).bind fun b ts => .ok (.mk (bs x1.t) vs b) ts) ∧ (us.length < f) ∧ (∀ g, Value.ownBlock vv = some g → w.heap.size ≤ g) ∧ (lv.length + us.length ≤ ts.length)) (fun (us, vr, f, vv, lv) => f) (us1, vr1, (us1.length + 1), zN, []) (Sub.cons rfl (Sub.cons rfl (Sub.cons rfl Sub.nil))) ⟨hR, hb0, hb1, hb2, OwnS.nil 9 _, (hts1), (by simp only [wayP, hq1, PR.bind_ok]), (Nat.lt_succ_self _), (fun g h => by cases h), (by have := PR.Sh.of (word_sh en 3 (by decide) ts) hq1; simp; omega)⟩ (fun gh w4 hI => ?_)
 obtain ⟨us, vr, f, vv, lv⟩ := gh
 clear hR hB hb0 hb1 hb2
 obtain ⟨hR, hb0, hb1, hb2, hOv, hus, hs, hfl, gOv, hln⟩ := hI
 have hB := Fr.below hR hB0 hB0.size hSge
 show At _ _ [(0, .pointer (some ⟨b0, 0, none⟩)), (2, .pointer (some ⟨b1, 0, none⟩)), (3, .pointer (some ⟨b2, 0, none⟩))] _ _
 refine .seq (.seq (.region (.move rfl rfl (.nilCheck rfl rfl (.fieldAddr rfl fo81_0 rfl ?_)))))
 refine At.buildSlice (xs := [.const (.int .i64 2)]) rfl rfl el48 sz3 ze3 (by intro v hv; simp only [List.mem_cons, List.not_mem_nil, or_false] at hv; rcases hv with rfl <;> first | rfl | simp [Value.cells]) rfl (by decide) rfl (fun b3 w5 F3 => ?_)
 have n_b0_b3 : b0 ≠ b3 := Nat.ne_of_lt (F3.lt hb0)
 have n_b1_b3 : b1 ≠ b3 := Nat.ne_of_lt (F3.lt hb1)
 have n_b2_b3 : b2 ≠ b3 := Nat.ne_of_lt (F3.lt hb2)
 have gb3 := Nat.le_trans hR.size (Nat.le_of_eq F3.eq.symm)
 replace hb0 := F3.old hb0
 replace hb1 := F3.old hb1
 replace hb2 := F3.old hb2
 replace hOv := hOv.fresh F3
 have hb3 : w5.heap[b3]? = some (.cells #[.int .i64 2] 3) := F3.new
 replace hR := hR.freshF F3
 replace hB := Fr.below hR hB0 hB0.size hSge
 refine At.call en71 rfl rfl (kind_any us vr (.slice (some ⟨b3, 0, none⟩) 1 1) ([2]) _ ((hus).keep hB) hb0 ((IntsAt.own (l := [2]) hb3 rfl (by decide) : IntsAt _ (.slice (some ⟨b3, 0, none⟩) 1 1) [2]))) (fun e w6 hR' => ?_)
 obtain ⟨rfl, hbl1⟩ := hR'
 refine ⟨_, rfl, ?_⟩
 replace hb0 := Below.old hbl1 hb0
 replace hb1 := Below.old hbl1 hb1
 replace hb2 := Below.old hbl1 hb2
 replace hb3 := Below.old hbl1 hb3
 replace hOv := hOv.below hbl1
 replace hR := hR.callF hbl1
 replace hB := Fr.below hR hB0 hB0.size hSge
 refine .ops0 (.thenN ?_)
 refine At.cond (b := (kdK en us ([2]))) rfl (fun hc1 => ?_) (fun hc1 => ?_)
 ·skip
  refine .skip (.thenN (.block (.drawG (n := 11) mixed (by kernel_rfl) rfl (PanicOk.block (PanicOk.then (PanicOk.block (PanicOk.then PanicOk.body)))) ?_)))
  have hR := Fr.drewF hR
  have hB := Below.drewB hB
  have hb0 : _ := (show w6.drew.heap[b0]? = _ from hb0)
  have hb1 : _ := (show w6.drew.heap[b1]? = _ from hb1)
  have hb2 : _ := (show w6.drew.heap[b2]? = _ from hb2)
  have hb3 : _ := (show w6.drew.heap[b3]? = _ from hb3)
  have hOv := hOv.drew
  refine At.wpcS (i := 0) (d := 13) (.pointer (some ⟨b2, 0 + 1, none⟩)) (by kernel_rfl) rfl rfl rfl (fun Lx => ?_) ?_
  ·skip
   refine .fieldAddr rfl fo61_1 rfl (.ops0 ?_)
   exact fun a ha => ⟨ha, rfl⟩
  refine At.wpcS (i := 1) (d := 14) (vv) (by kernel_rfl) rfl rfl rfl (fun Lx => ?_) ?_
  ·skip
   refine .load rfl (Ld.ownCell ag29 hb2 rfl) rfl (.ops0 ?_)
   exact fun a ha => ⟨ha, rfl⟩
  refine At.wpcS (i := 2) (d := 15) (.pointer (some ⟨b0, 0, none⟩)) (by kernel_rfl) rfl rfl rfl (fun Lx => ?_) ?_
  ·skip
   refine .move rfl rfl (.ops0 ?_)
   exact fun a ha => ⟨ha, rfl⟩
  refine At.wpcS (i := 3) (d := 16) (.pointer (some ⟨b0, 0, none⟩)) (by kernel_rfl) rfl rfl rfl (fun Lx => ?_) ?_
  ·skip
   refine .nilCheck rfl rfl (.ops0 ?_)
   exact fun a ha => ⟨ha, rfl⟩
  refine At.wpcS (i := 4) (d := 17) (.pointer (some ⟨b0, 0 + 0, none⟩)) (by kernel_rfl) rfl rfl rfl (fun Lx => ?_) ?_
  ·skip
   refine .fieldAddr rfl fo81_0 rfl (.ops0 ?_)
   exact fun a ha => ⟨ha, rfl⟩
  refine At.wpcE [5] (by kernel_rfl) (by kernel_rfl) (.cons [0, 1] rfl (by kernel_rfl) ?_ .nil)
  refine At.call en74 rfl rfl (ptake_any us vr _ hB hSge hus hb0 (kd_len hc1 (by simp))) (fun e wp2 hR' => ?_)
  obtain ⟨vr2, rfl, hts2, hbo2, hF2⟩ := hR'
  refine ⟨_, rfl, ?_⟩
  replace hb1 := Fr.oldB hF2 hb1 (n_b0_b1.symm)
  replace hb2 := Fr.oldB hF2 hb2 (n_b0_b2.symm)
  replace hb3 := Fr.oldB hF2 hb3 (n_b0_b3.symm)
  replace hOv := OwnS.frB hOv hF2 hb0 rfl
  replace hb0 := hbo2
  replace hR := Fr.then hR hF2 (fun k hk => .inl hk)
  replace hB := Fr.below hR hB0 hB0.size hSge
  refine .ops0 ?_
  refine At.wpcN (.cons rfl rfl rfl rfl (fun Lx => ?_) (.cons rfl rfl rfl rfl (fun Lx => ?_) .nil)) ?_
  ·skip
   refine .fieldAddr rfl fo61_1 rfl (.ops0 ?_)
   exact fun a ha => ⟨ha, rfl⟩
  ·skip
   refine .load rfl (Ld.ownCell ag29 hb2 rfl) rfl (.ops0 ?_)
   exact fun a ha => ⟨ha, rfl⟩
  refine At.wpcS (i := 6) (d := 19) (.string (bs ((nx en us).t))) (by kernel_rfl) rfl rfl rfl (fun Lx => ?_) ?_
  ·skip
   refine .fieldC rfl ft47_1 ag9 (((tk_ok (nx en us))).c1) rfl (.ops0 ?_)
   exact fun a ha => ⟨ha, rfl⟩
  refine At.wpcE [7] (by kernel_rfl) (by kernel_rfl) (.cons [0, 1] rfl (by kernel_rfl) ?_ .nil)
  refine At.buildSlice (xs := [.tmp 19]) rfl rfl el29 sz9 ze9 (by intro v hv; simp only [List.mem_cons, List.not_mem_nil, or_false] at hv; rcases hv with rfl <;> first | rfl | simp [Value.cells]) rfl (by decide) rfl (fun b4 w7 F4 => ?_)
  have q_hOv_b4 : some b4 ≠ Value.ownBlock vv := Own.neFresh hOv F4
  have n_b0_b4 : b0 ≠ b4 := Nat.ne_of_lt (F4.lt hb0)
  have n_b1_b4 : b1 ≠ b4 := Nat.ne_of_lt (F4.lt hb1)
  have n_b2_b4 : b2 ≠ b4 := Nat.ne_of_lt (F4.lt hb2)
  have n_b3_b4 : b3 ≠ b4 := Nat.ne_of_lt (F4.lt hb3)
  have gb4 := Nat.le_trans hR.size (Nat.le_of_eq F4.eq.symm)
  replace hb0 := F4.old hb0
  replace hb1 := F4.old hb1
  replace hb2 := F4.old hb2
  replace hb3 := F4.old hb3
  replace hOv := hOv.fresh F4
  have hb4 : w7.heap[b4]? = some (.cells #[.string (bs ((nx en us).t))] 9) := F4.new
  replace hR := hR.freshF F4
  replace hB := Fr.below hR hB0 hB0.size hSge
  refine .ops0 ?_
  refine At.wpcN (.cons rfl rfl rfl rfl (fun Lx => ?_) (.cons rfl rfl rfl rfl (fun Lx => ?_) .nil)) ?_
  ·skip
   refine .fieldAddr rfl fo61_1 rfl (.ops0 ?_)
   exact fun a ha => ⟨ha, rfl⟩
  ·skip
   refine .load rfl (Ld.ownCell ag29 hb2 rfl) rfl (.ops0 ?_)
   exact fun a ha => ⟨ha, rfl⟩
  refine At.wpcE [8] (by kernel_rfl) (by kernel_rfl) (.cons [] rfl (by kernel_rfl) ?_ .nil)
  refine At.appendS (ss := lv) rfl rfl el29 el29 sz9 by9 ze9 rfl hOv ((StrsAt.own (ss := [(bs ((nx en us).t))]) hb4 rfl (by decide) : StrsAt _ (.slice (some ⟨b4, 0, none⟩) 1 1) [(bs ((nx en us).t))])) (by first | omega | (simp; omega)) rfl (fun va1 w8 hO1 hA1 => ?_)
  replace hb0 := hA1.old hb0 (hOv.neT hb0 rfl)
  replace hb1 := hA1.old hb1 (hOv.neT hb1 rfl)
  replace hb2 := hA1.old hb2 (hOv.neT hb2 rfl)
  replace hb3 := hA1.old hb3 (hOv.neT hb3 rfl)
  clear hb4
  have ghO1 := hA1.ge hR.size gOv
  replace hR := hR.appF hA1 (fun g hg => .inr (gOv g hg))
  replace hB := Fr.below hR hB0 hB0.size hSge
  refine .ops0 (.wpcN .nil ?_)
  refine At.wpcS (i := 9) (d := 22) (.pointer (some ⟨b2, 0 + 1, none⟩)) (by kernel_rfl) rfl rfl rfl (fun Lx => ?_) ?_
  ·skip
   refine .fieldAddr rfl fo61_1 rfl (.ops0 ?_)
   exact fun a ha => ⟨ha, rfl⟩
  refine At.wpcE [10] (by kernel_rfl) (by kernel_rfl) (.cons [] rfl (by kernel_rfl) ?_ .nil)
  refine At.store1 rfl rfl hb2 sz29 (by simp) ((hO1.strs).ok).one (fun w9 S2 => ?_)
  replace hb0 := S2.other hb0 n_b0_b2
  replace hb1 := S2.other hb1 n_b1_b2
  replace hb3 := S2.other hb3 n_b2_b3.symm
  replace hO1 := hO1.set S2 (hO1.neT hb2 rfl)
  replace hb2 : w9.heap[b2]? = some (.cells #[.string (bs x1.t), va1, zI, zI, zS, zS, zI, zN, zN, zI, zS, zI, zN, zN, zI, zN, zI, zI, zS, zI, zN, zN, zI] 61) := S2.new
  replace hR := hR.setF S2 (.inr gb2)
  replace hB := Fr.below hR hB0 hB0.size hSge
  refine .ops0 (.wpcN .nil (.wpcZ (.inN (.thenN ?_))))
  exact fun act_ hact_ => ⟨(us.tail, vr2, (f - 1), va1, (lv ++ [(bs ((nx en us).t))])), hact_.sub (Sub.cons rfl (Sub.cons rfl (Sub.cons rfl Sub.nil))), ⟨hR, hb0, hb1, hb2, hO1, (hts2), (by obtain ⟨q, rfl⟩ : ∃ q, f = q + 1 := ⟨f - 1, by omega⟩; rw [hs, varsP]; simp only [hc1, hq1, cond_true, PR.bind_ok]; rfl), (by have := hln; have := tail_len (kd_len hc1 (by simp)); omega), (ghO1), (by have := hln; have := tail_len (kd_len hc1 (by simp)); simp; omega)⟩, by first | omega | (dsimp only; omega)⟩
 ·skip
  refine .exit (.thenE (.thenE (.inE (.thenN (.seq (.region (.move rfl rfl ?_)))))))
  have hml3 : MLt w6.heap.size [some b0, some b1, some b2, some b3, Value.ownBlock vv] := (MLt.blk hb0 (MLt.blk hb1 (MLt.blk hb2 (MLt.blk hb3 (MLt.own hOv (MLt.nil _))))))
  refine At.callP en87 rfl rfl (body_any us vr ex  _ hB hSge hus hb0 (by have hz := hbig; have := hln; omega) hxs hex) (fun e wp3 hR' => ?_)
  rcases hR'.cases.symm with ⟨ba, bc, hq3, rfl, hF3, hbb⟩ | ⟨x3, us3, val3, vr3, hq3, rfl, hF3, hts3, hbo3, ho3⟩
  ·exact .inr ⟨_, rfl, (Pk.then (Pk.body (RetP.bad (by obtain ⟨q, rfl⟩ : ∃ q, f = q + 1 := ⟨f - 1, by omega⟩; rw [hs, varsP]; simp only [wayP, SB, hc1, hq1, hq3] <;> rfl) (Fr.then hR hF3 (fun k hk => .inl hk)) hbb)))⟩
  refine .inl ⟨_, rfl, ?_⟩
  replace hb1 := Fr.oldB hF3 hb1 (n_b0_b1.symm)
  replace hb2 := Fr.oldB hF3 hb2 (n_b0_b2.symm)
  replace hb3 := Fr.oldB hF3 hb3 (n_b0_b3.symm)
  replace hOv := OwnS.frB hOv hF3 hb0 rfl
  replace hb0 := hbo3
  have hsz3 := hR.size
  replace hR := Fr.then hR hF3 (fun k hk => .inl hk)
  replace hB := Fr.below hR hB0 hB0.size hSge
  obtain ⟨tm3, rfl, htm3, hmt3⟩ := ho3
  have hx3 := Xs.of_new (B := 0) (M := [some b0, some b1, some b2, some b3, Value.ownBlock vv]) (K := kTm) htm3 (fun b hb => .inr (hmt3.blk b hb)) (fun _ _ => Nat.zero_le _) hml3
  replace hmt3 := hmt3.mono hsz3
  refine .fieldAddr rfl fo61_2 rfl ?_
  have hsp1 : splice #[.string (bs x1.t), vv, zI, zI, zS, zS, zI, zN, zN, zI, zS, zI, zN, zN, zI, zN, zI, zI, zS, zI, zN, zN, zI] 2 tm3.cs = (amA (bs x1.t) vv lv tm3).cs := splice_arm rfl ((Xs.one hx3)).size rfl rfl
  refine At.storePart (cs := tm3.cs) rfl rfl hb2 (sz35.trans (congrArg some ((Xs.one hx3)).size.symm)) (by rw [((Xs.one hx3)).size]; first | decide | exact Nat.le_of_ble_eq_true rfl) ((Xs.one hx3)).one (fun w10 S3 => ?_)
  replace hb0 := S3.other hb0 n_b0_b2
  replace hb1 := S3.other hb1 n_b1_b2
  replace hb3 := S3.other hb3 n_b2_b3.symm
  replace hOv := hOv.set S3 (hOv.neT hb2 rfl)
  replace hx3 := Xs.set hx3 S3 (by simp)
  replace hb2 : w10.heap[b2]? = some (.cells (amA (bs x1.t) vv lv tm3).cs 61) := (by have q := S3.new; rw [hsp1] at q; exact q)
  replace hR := hR.setF S3 (.inr gb2)
  replace hB := Fr.below hR hB0 hB0.size hSge
  refine .ops0 (.thenN (.seq (.region (.load rfl (Ld.own ag61 (sz61.trans (congrArg some ((amA_ok (hOv).strs (Xs.one hx3))).size.symm)) hb2) rfl ?_))))
  refine At.storeAll rfl rfl hb1 (sz61.trans (congrArg some ((amA_ok (hOv).strs (Xs.one hx3))).size.symm)) ((amA_ok (hOv).strs (Xs.one hx3))).size.symm ((amA_ok (hOv).strs (Xs.one hx3))).one (fun w11 S4 => ?_)
  replace hb0 := S4.other hb0 n_b0_b1
  replace hb2 := S4.other hb2 n_b1_b2.symm
  replace hb3 := S4.other hb3 n_b1_b3.symm
  replace hOv := hOv.set S4 (hOv.neT hb1 rfl)
  replace hx3 := Xs.set hx3 S4 (by simp)
  replace hb1 : w11.heap[b1]? = some (.cells (amA (bs x1.t) vv lv tm3).cs 61) := S4.new
  replace hR := hR.setF S4 (.inr gb1)
  replace hB := Fr.below hR hB0 hB0.size hSge
  refine .ops0 (.thenN (.retc (.doneR (ResV.cell rfl (Ld.own ag61 (sz61.trans (congrArg some ((amA_ok (hOv).strs (Xs.one hx3))).size.symm)) hb1) ResV.nil) ?_)))
  exact RetP.ok (x := (SA.mk (bs x1.t) lv x3)) (by obtain ⟨q, rfl⟩ : ∃ q, f = q + 1 := ⟨f - 1, by omega⟩; rw [hs, varsP]; simp only [wayP, SB, hc1, hq1, hq3] <;> rfl) hR hts3 hb0 ⟨(amA (bs x1.t) vv lv tm3), rfl, (amA_ok (hOv).strs (Xs.one hx3)), (MA.made hmt3 (fun hn => OwnS.vbGe hOv gOv hn))⟩
theorem clause_any {wB : World} {b0 : Nat} {en dp : Int} (ts : List Tk) (v : Value) (ex : List Tk → PR ST) (first : Bool) (w : World) (hB0 : Below wB.heap.size wB w) (hSge : ∀ k, k = b0 → wB.heap.size ≤ k) (hts : RowsAt wB v 4 (ts.map Tk.cs)) (hb0 : w.heap[b0]? = some (.cells #[v, .int .i64 en, .int .i64 dp] 81)) (hbig : ts.length ≤ 100000000) (hxs : ∀ ts, (ex ts).Sh ts.length) (hex : ExC en dp ex) :
  Calls Try.prog 78 ([.pointer (some ⟨b0, 0, none⟩), .bool first] : List Value).toArray w fun e w' => RetP (fun k => k = b0) wB b0 en dp (okA w) (clauseP en ex first ts) w e w' := by
 have htl := hts.lenL
 have hR := Fr.refl (fun k => k = b0) w
 have hB := hB0
 refine At.enter (N := 24) Try.func78 rfl rfl (by simp) [(0, .pointer (some ⟨b0, 0, none⟩)), (1, .bool first)] (by simp) ?_
 refine .seq (.region ?_)
 refine At.alloc ze61 rfl (fun b1 w1 F1 => ?_)
 have n_b0_b1 : b0 ≠ b1 := Nat.ne_of_lt (F1.lt hb0)
 have gb1 := Nat.le_trans hR.size (Nat.le_of_eq F1.eq.symm)
 replace hb0 := F1.old hb0
 have hb1 : w1.heap[b1]? = some (.cells #[zS, zN, zI, zI, zS, zS, zI, zN, zN, zI, zS, zI, zN, zN, zI, zN, zI, zI, zS, zI, zN, zN, zI] 61) := F1.new
 replace hR := hR.freshF F1
 replace hB := Fr.below hR hB0 hB0.size hSge
 refine .ops0 (.thenN (.seq (.seq (.region (.move rfl rfl (.ops0 (.thenN ?_)))))))
 refine At.cond (b := first) rfl (fun hc1 => ?_) (fun hc1 => ?_)
 ·skip
  refine .seq (.region (.move rfl rfl ?_))
  refine At.buildSlice (xs := [.const (.string (⟨#[114, 101, 116, 117, 114, 110]⟩ : ByteArray))]) rfl rfl el29 sz9 ze9 (by intro v hv; simp only [List.mem_cons, List.not_mem_nil, or_false] at hv; rcases hv with rfl <;> first | rfl | simp [Value.cells]) rfl (by decide) rfl (fun b2 w2 F2 => ?_)
  have n_b0_b2 : b0 ≠ b2 := Nat.ne_of_lt (F2.lt hb0)
  have n_b1_b2 : b1 ≠ b2 := Nat.ne_of_lt (F2.lt hb1)
  have gb2 := Nat.le_trans hR.size (Nat.le_of_eq F2.eq.symm)
  replace hb0 := F2.old hb0
  replace hb1 := F2.old hb1
  have hb2 : w2.heap[b2]? = some (.cells #[.string (⟨#[114, 101, 116, 117, 114, 110]⟩ : ByteArray)] 9) := F2.new
  replace hR := hR.freshF F2
  replace hB := Fr.below hR hB0 hB0.size hSge
  refine At.callP en65 rfl rfl (ptext_any ts v (.slice (some ⟨b2, 0, none⟩) 1 1) ([(⟨#[114, 101, 116, 117, 114, 110]⟩ : ByteArray)]) _ hB hSge hts hb0 ((StrsAt.own (ss := [(⟨#[114, 101, 116, 117, 114, 110]⟩ : ByteArray)]) hb2 rfl (by decide) : StrsAt _ (.slice (some ⟨b2, 0, none⟩) 1 1) [(⟨#[114, 101, 116, 117, 114, 110]⟩ : ByteArray)])) (fun _ => show b2 ≠ b0 from n_b0_b2.symm)) (fun e wp1 hR' => ?_)
  rcases hR'.cases.symm with ⟨ba, bc, hq1, rfl, hF1, hbb⟩ | ⟨x1, us1, val1, vr1, hq1, rfl, hF1, hts1, hbo1, ho1⟩
  ·exact .inr ⟨_, rfl, (Pk.then (Pk.then (Pk.body (RetP.bad (by simp only [clauseP, SB, hc1, hq1] <;> rfl) (Fr.then hR hF1 (fun k hk => .inl hk)) hbb))))⟩
  refine .inl ⟨_, rfl, ?_⟩
  replace hb1 := Fr.oldB hF1 hb1 (n_b0_b1.symm)
  replace hb2 := Fr.oldB hF1 hb2 (n_b0_b2.symm)
  replace hb0 := hbo1
  have hsz1 := hR.size
  replace hR := Fr.then hR hF1 (fun k hk => .inl hk)
  replace hB := Fr.below hR hB0 hB0.size hSge
  obtain rfl := ho1
  refine .ops0 (.thenN (.region (.move rfl rfl ?_)))
  refine At.callP en75 rfl rfl (names_any us1 vr1 1 _ hB hSge hts1 hb0 (by decide)) (fun e wp2 hR' => ?_)
  rcases hR'.cases.symm with ⟨ba, bc, hq2, rfl, hF2, hbb⟩ | ⟨x2, us2, val2, vr2, hq2, rfl, hF2, hts2, hbo2, ho2⟩
  ·exact .inr ⟨_, rfl, (Pk.then (Pk.body (RetP.bad (by simp only [clauseP, SB, hc1, hq1, hq2] <;> rfl) (Fr.then hR hF2 (fun k hk => .inl hk)) hbb)))⟩
  refine .inl ⟨_, rfl, ?_⟩
  replace hb1 := Fr.oldB hF2 hb1 (n_b0_b1.symm)
  replace hb2 := Fr.oldB hF2 hb2 (n_b0_b2.symm)
  replace hb0 := hbo2
  have hsz2 := hR.size
  replace hR := Fr.then hR hF2 (fun k hk => .inl hk)
  replace hB := Fr.below hR hB0 hB0.size hSge
  obtain ⟨hO_2, gO_2⟩ := ho2
  replace gO_2 : ∀ g, Value.ownBlock val2 = some g → w.heap.size ≤ g := fun g hg => Nat.le_trans hsz2 (gO_2 g hg)
  refine .fieldAddr rfl fo61_0 rfl ?_
  refine At.store1 rfl rfl hb1 sz9 (by simp) rfl (fun w3 S1 => ?_)
  replace hb0 := S1.other hb0 n_b0_b1
  replace hb2 := S1.other hb2 n_b1_b2.symm
  replace hO_2 := hO_2.set S1 (hO_2.neT hb1 rfl)
  replace hb1 : w3.heap[b1]? = some (.cells #[.string (⟨#[114, 101, 116, 117, 114, 110]⟩ : ByteArray), zN, zI, zI, zS, zS, zI, zN, zN, zI, zS, zI, zN, zN, zI, zN, zI, zI, zS, zI, zN, zN, zI] 61) := S1.new
  replace hR := hR.setF S1 (.inr gb1)
  replace hB := Fr.below hR hB0 hB0.size hSge
  refine .fieldAddr rfl fo61_1 rfl ?_
  refine At.store1 rfl rfl hb1 sz29 (by simp) ((hO_2.strs).ok).one (fun w4 S2 => ?_)
  replace hb0 := S2.other hb0 n_b0_b1
  replace hb2 := S2.other hb2 n_b1_b2.symm
  replace hO_2 := hO_2.set S2 (hO_2.neT hb1 rfl)
  replace hb1 : w4.heap[b1]? = some (.cells #[.string (⟨#[114, 101, 116, 117, 114, 110]⟩ : ByteArray), val2, zI, zI, zS, zS, zI, zN, zN, zI, zS, zI, zN, zN, zI, zN, zI, zI, zS, zI, zN, zN, zI] 61) := S2.new
  replace hR := hR.setF S2 (.inr gb1)
  replace hB := Fr.below hR hB0 hB0.size hSge
  refine .ops0 (.thenN (.seq (.region (.move rfl rfl ?_))))
  have hml3 : MLt w4.heap.size [some b0, some b1, some b2, Value.ownBlock val2] := (MLt.blk hb0 (MLt.blk hb1 (MLt.blk hb2 (MLt.own hO_2 (MLt.nil _)))))
  refine At.callP en87 rfl rfl (body_any us2 vr2 ex  _ hB hSge hts2 hb0 (by have hz := hbig; have := PR.Le.of (text_le en ([(⟨#[114, 101, 116, 117, 114, 110]⟩ : ByteArray)]) ts) hq1; have := PR.Le.of (names_le en 1 [] us1) hq2; omega) hxs hex) (fun e wp3 hR' => ?_)
  rcases hR'.cases.symm with ⟨ba, bc, hq3, rfl, hF3, hbb⟩ | ⟨x3, us3, val3, vr3, hq3, rfl, hF3, hts3, hbo3, ho3⟩
  ·exact .inr ⟨_, rfl, (Pk.then (Pk.body (RetP.bad (by simp only [clauseP, SB, hc1, hq1, hq2, hq3] <;> rfl) (Fr.then hR hF3 (fun k hk => .inl hk)) hbb)))⟩
  refine .inl ⟨_, rfl, ?_⟩
  replace hb1 := Fr.oldB hF3 hb1 (n_b0_b1.symm)
  replace hb2 := Fr.oldB hF3 hb2 (n_b0_b2.symm)
  replace hO_2 := OwnS.frB hO_2 hF3 hb0 rfl
  replace hb0 := hbo3
  have hsz3 := hR.size
  replace hR := Fr.then hR hF3 (fun k hk => .inl hk)
  replace hB := Fr.below hR hB0 hB0.size hSge
  obtain ⟨tm3, rfl, htm3, hmt3⟩ := ho3
  have hx3 := Xs.of_new (B := 0) (M := [some b0, some b1, some b2, Value.ownBlock val2]) (K := kTm) htm3 (fun b hb => .inr (hmt3.blk b hb)) (fun _ _ => Nat.zero_le _) hml3
  replace hmt3 := hmt3.mono hsz3
  refine .fieldAddr rfl fo61_2 rfl ?_
  have hsp1 : splice #[.string (⟨#[114, 101, 116, 117, 114, 110]⟩ : ByteArray), val2, zI, zI, zS, zS, zI, zN, zN, zI, zS, zI, zN, zN, zI, zN, zI, zI, zS, zI, zN, zN, zI] 2 tm3.cs = (amA (⟨#[114, 101, 116, 117, 114, 110]⟩ : ByteArray) val2 x2 tm3).cs := splice_arm rfl ((Xs.one hx3)).size rfl rfl
  refine At.storePart (cs := tm3.cs) rfl rfl hb1 (sz35.trans (congrArg some ((Xs.one hx3)).size.symm)) (by rw [((Xs.one hx3)).size]; first | decide | exact Nat.le_of_ble_eq_true rfl) ((Xs.one hx3)).one (fun w5 S3 => ?_)
  replace hb0 := S3.other hb0 n_b0_b1
  replace hb2 := S3.other hb2 n_b1_b2.symm
  replace hO_2 := hO_2.set S3 (hO_2.neT hb1 rfl)
  replace hx3 := Xs.set hx3 S3 (by simp)
  replace hb1 : w5.heap[b1]? = some (.cells (amA (⟨#[114, 101, 116, 117, 114, 110]⟩ : ByteArray) val2 x2 tm3).cs 61) := (by have q := S3.new; rw [hsp1] at q; exact q)
  replace hR := hR.setF S3 (.inr gb1)
  replace hB := Fr.below hR hB0 hB0.size hSge
  refine .ops0 (.thenN (.seq (.region (.load rfl (Ld.own ag61 (sz61.trans (congrArg some ((amA_ok (hO_2).strs (Xs.one hx3))).size.symm)) hb1) rfl ?_))))
  refine At.storeAll rfl rfl hb1 (sz61.trans (congrArg some ((amA_ok (hO_2).strs (Xs.one hx3))).size.symm)) (((amA_ok (hO_2).strs (Xs.one hx3))).size.trans ((amA_ok (hO_2).strs (Xs.one hx3))).size.symm) ((amA_ok (hO_2).strs (Xs.one hx3))).one (fun w6 S4 => ?_)
  replace hb0 := S4.other hb0 n_b0_b1
  replace hb2 := S4.other hb2 n_b1_b2.symm
  replace hO_2 := hO_2.set S4 (hO_2.neT hb1 rfl)
  replace hx3 := Xs.set hx3 S4 (by simp)
  replace hb1 : w6.heap[b1]? = some (.cells (amA (⟨#[114, 101, 116, 117, 114, 110]⟩ : ByteArray) val2 x2 tm3).cs 61) := S4.new
  replace hR := hR.setF S4 (.inr gb1)
  replace hB := Fr.below hR hB0 hB0.size hSge
  refine .ops0 (.thenN (.retc (.doneR (ResV.cell rfl (Ld.own ag61 (sz61.trans (congrArg some ((amA_ok (hO_2).strs (Xs.one hx3))).size.symm)) hb1) ResV.nil) ?_)))
  exact RetP.ok (x := (SA.mk (⟨#[114, 101, 116, 117, 114, 110]⟩ : ByteArray) x2 x3)) (by simp only [clauseP, SB, hc1, hq1, hq2, hq3] <;> rfl) hR hts3 hb0 ⟨(amA (⟨#[114, 101, 116, 117, 114, 110]⟩ : ByteArray) val2 x2 tm3), rfl, (amA_ok (hO_2).strs (Xs.one hx3)), (MA.made hmt3 (fun hn => OwnS.vbGe hO_2 gO_2 hn))⟩
 ·skip
  refine .region (.move rfl rfl ?_)
  refine At.callP en66 rfl rfl (word_any ts v 2 _ hB hSge hts hb0 (by decide)) (fun e wp4 hR' => ?_)
  rcases hR'.cases.symm with ⟨ba, bc, hq4, rfl, hF4, hbb⟩ | ⟨x4, us4, val4, vr4, hq4, rfl, hF4, hts4, hbo4, ho4⟩
  ·exact .inr ⟨_, rfl, (Pk.then (Pk.body (RetP.bad (by simp only [clauseP, SB, hc1, hq4] <;> rfl) (Fr.then hR hF4 (fun k hk => .inl hk)) hbb)))⟩
  refine .inl ⟨_, rfl, ?_⟩
  replace hb1 := Fr.oldB hF4 hb1 (n_b0_b1.symm)
  replace hb0 := hbo4
  have hsz4 := hR.size
  replace hR := Fr.then hR hF4 (fun k hk => .inl hk)
  replace hB := Fr.below hR hB0 hB0.size hSge
  obtain rfl := ho4
  refine .fieldC rfl ft47_1 ag9 (((tk_ok x4)).c1) rfl (.move rfl rfl ?_)
  refine At.callP en75 rfl rfl (names_any us4 vr4 2 _ hB hSge hts4 hb0 (by decide)) (fun e wp5 hR' => ?_)
  rcases hR'.cases.symm with ⟨ba, bc, hq5, rfl, hF5, hbb⟩ | ⟨x5, us5, val5, vr5, hq5, rfl, hF5, hts5, hbo5, ho5⟩
  ·exact .inr ⟨_, rfl, (Pk.then (Pk.body (RetP.bad (by simp only [clauseP, SB, hc1, hq4, hq5] <;> rfl) (Fr.then hR hF5 (fun k hk => .inl hk)) hbb)))⟩
  refine .inl ⟨_, rfl, ?_⟩
  replace hb1 := Fr.oldB hF5 hb1 (n_b0_b1.symm)
  replace hb0 := hbo5
  have hsz5 := hR.size
  replace hR := Fr.then hR hF5 (fun k hk => .inl hk)
  replace hB := Fr.below hR hB0 hB0.size hSge
  obtain ⟨hO_5, gO_5⟩ := ho5
  replace gO_5 : ∀ g, Value.ownBlock val5 = some g → w.heap.size ≤ g := fun g hg => Nat.le_trans hsz5 (gO_5 g hg)
  refine .fieldAddr rfl fo61_0 rfl ?_
  refine At.store1 rfl rfl hb1 sz9 (by simp) rfl (fun w7 S5 => ?_)
  replace hb0 := S5.other hb0 n_b0_b1
  replace hO_5 := hO_5.set S5 (hO_5.neT hb1 rfl)
  replace hb1 : w7.heap[b1]? = some (.cells #[.string (bs x4.t), zN, zI, zI, zS, zS, zI, zN, zN, zI, zS, zI, zN, zN, zI, zN, zI, zI, zS, zI, zN, zN, zI] 61) := S5.new
  replace hR := hR.setF S5 (.inr gb1)
  replace hB := Fr.below hR hB0 hB0.size hSge
  refine .fieldAddr rfl fo61_1 rfl ?_
  refine At.store1 rfl rfl hb1 sz29 (by simp) ((hO_5.strs).ok).one (fun w8 S6 => ?_)
  replace hb0 := S6.other hb0 n_b0_b1
  replace hO_5 := hO_5.set S6 (hO_5.neT hb1 rfl)
  replace hb1 : w8.heap[b1]? = some (.cells #[.string (bs x4.t), val5, zI, zI, zS, zS, zI, zN, zN, zI, zS, zI, zN, zN, zI, zN, zI, zI, zS, zI, zN, zN, zI] 61) := S6.new
  replace hR := hR.setF S6 (.inr gb1)
  replace hB := Fr.below hR hB0 hB0.size hSge
  refine .ops0 (.thenN (.seq (.region (.move rfl rfl ?_))))
  have hml6 : MLt w8.heap.size [some b0, some b1, Value.ownBlock val5] := (MLt.blk hb0 (MLt.blk hb1 (MLt.own hO_5 (MLt.nil _))))
  refine At.callP en87 rfl rfl (body_any us5 vr5 ex  _ hB hSge hts5 hb0 (by have hz := hbig; have := PR.Sh.of (word_sh en 2 (by decide) ts) hq4; have := PR.Le.of (names_le en 2 [] us4) hq5; omega) hxs hex) (fun e wp6 hR' => ?_)
  rcases hR'.cases.symm with ⟨ba, bc, hq6, rfl, hF6, hbb⟩ | ⟨x6, us6, val6, vr6, hq6, rfl, hF6, hts6, hbo6, ho6⟩
  ·exact .inr ⟨_, rfl, (Pk.then (Pk.body (RetP.bad (by simp only [clauseP, SB, hc1, hq4, hq5, hq6] <;> rfl) (Fr.then hR hF6 (fun k hk => .inl hk)) hbb)))⟩
  refine .inl ⟨_, rfl, ?_⟩
  replace hb1 := Fr.oldB hF6 hb1 (n_b0_b1.symm)
  replace hO_5 := OwnS.frB hO_5 hF6 hb0 rfl
  replace hb0 := hbo6
  have hsz6 := hR.size
  replace hR := Fr.then hR hF6 (fun k hk => .inl hk)
  replace hB := Fr.below hR hB0 hB0.size hSge
  obtain ⟨tm6, rfl, htm6, hmt6⟩ := ho6
  have hx6 := Xs.of_new (B := 0) (M := [some b0, some b1, Value.ownBlock val5]) (K := kTm) htm6 (fun b hb => .inr (hmt6.blk b hb)) (fun _ _ => Nat.zero_le _) hml6
  replace hmt6 := hmt6.mono hsz6
  refine .fieldAddr rfl fo61_2 rfl ?_
  have hsp2 : splice #[.string (bs x4.t), val5, zI, zI, zS, zS, zI, zN, zN, zI, zS, zI, zN, zN, zI, zN, zI, zI, zS, zI, zN, zN, zI] 2 tm6.cs = (amA (bs x4.t) val5 x5 tm6).cs := splice_arm rfl ((Xs.one hx6)).size rfl rfl
  refine At.storePart (cs := tm6.cs) rfl rfl hb1 (sz35.trans (congrArg some ((Xs.one hx6)).size.symm)) (by rw [((Xs.one hx6)).size]; first | decide | exact Nat.le_of_ble_eq_true rfl) ((Xs.one hx6)).one (fun w9 S7 => ?_)
  replace hb0 := S7.other hb0 n_b0_b1
  replace hO_5 := hO_5.set S7 (hO_5.neT hb1 rfl)
  replace hx6 := Xs.set hx6 S7 (by simp)
  replace hb1 : w9.heap[b1]? = some (.cells (amA (bs x4.t) val5 x5 tm6).cs 61) := (by have q := S7.new; rw [hsp2] at q; exact q)
  replace hR := hR.setF S7 (.inr gb1)
  replace hB := Fr.below hR hB0 hB0.size hSge
  refine .ops0 (.thenN (.seq (.region (.load rfl (Ld.own ag61 (sz61.trans (congrArg some ((amA_ok (hO_5).strs (Xs.one hx6))).size.symm)) hb1) rfl ?_))))
  refine At.storeAll rfl rfl hb1 (sz61.trans (congrArg some ((amA_ok (hO_5).strs (Xs.one hx6))).size.symm)) (((amA_ok (hO_5).strs (Xs.one hx6))).size.trans ((amA_ok (hO_5).strs (Xs.one hx6))).size.symm) ((amA_ok (hO_5).strs (Xs.one hx6))).one (fun w10 S8 => ?_)
  replace hb0 := S8.other hb0 n_b0_b1
  replace hO_5 := hO_5.set S8 (hO_5.neT hb1 rfl)
  replace hx6 := Xs.set hx6 S8 (by simp)
  replace hb1 : w10.heap[b1]? = some (.cells (amA (bs x4.t) val5 x5 tm6).cs 61) := S8.new
  replace hR := hR.setF S8 (.inr gb1)
  replace hB := Fr.below hR hB0 hB0.size hSge
  refine .ops0 (.thenN (.retc (.doneR (ResV.cell rfl (Ld.own ag61 (sz61.trans (congrArg some ((amA_ok (hO_5).strs (Xs.one hx6))).size.symm)) hb1) ResV.nil) ?_)))
  exact RetP.ok (x := (SA.mk (bs x4.t) x5 x6)) (by simp only [clauseP, SB, hc1, hq4, hq5, hq6] <;> rfl) hR hts6 hb0 ⟨(amA (bs x4.t) val5 x5 tm6), rfl, (amA_ok (hO_5).strs (Xs.one hx6)), (MA.made hmt6 (fun hn => OwnS.vbGe hO_5 gO_5 hn))⟩
end Go.Proofs.Ytkjmjnddanhapaa
