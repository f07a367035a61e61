/-
  Part 3 of 6 of a proof: sourceNests_holds. No condition beyond those that stand in each statement.
-/
import Derived.Test.YtfoolfecjjngpaaGreatPn2
set_option linter.unusedVariables false
set_option linter.unusedSimpArgs false
namespace Go.Proofs.YtfoolfecjjngpaaGreat
open Go.RowKit
theorem ag22 : aggB Tryz.prog 22 = some false := by kernel_rfl
theorem ag23 : aggB Tryz.prog 23 = some false := by kernel_rfl
theorem by31 : bytesB Tryz.prog 31 = some 312 := by kernel_rfl
theorem by40 : bytesB Tryz.prog 40 = some 352 := by kernel_rfl
theorem el23 : elemB Tryz.prog 23 = some 40 := by kernel_rfl
theorem en85 : entB Tryz.prog 85 = true := by kernel_rfl
theorem en86 : entB Tryz.prog 86 = true := by kernel_rfl
theorem en91 : entB Tryz.prog 91 = true := by kernel_rfl
theorem en92 : entB Tryz.prog 92 = true := by kernel_rfl
theorem fo102_1 : fieldB Tryz.prog 102 1 = some (2, 1) := by kernel_rfl
theorem fo31_6 : fieldB Tryz.prog 31 6 = some (6, 1) := by kernel_rfl
theorem ft141_3 : fieldTB Tryz.prog 141 3 = some (3, 3) := by kernel_rfl
theorem sz22 : sizeB Tryz.prog 22 = some 1 := by kernel_rfl
theorem sz23 : sizeB Tryz.prog 23 = some 1 := by kernel_rfl
theorem expr1_any {b0 bp : Nat} {en d1 : Int} (v : Value) (u : FrameMode) (w : World) (hb0 : w.heap[b0]? = some (.cells #[v, .int .i64 en, .int .i64 d1] 102)) (hbp : w.heap[bp]? = some (.cells #[.pointer (some ⟨b0, 0, none⟩)] 98)) :
  CallsD Tryz.prog 85 ([.pointer (some ⟨bp, 0, none⟩)] : List Value).toArray u w fun e u' w' => u' = u ∧ ((∃ v, e = .returned v) ∧ (w'.heap[b0]? = some (.cells #[v, .int .i64 en, .int .i64 (IntKind.i64.wrap (d1 - 1))] 102) ∧ Fr (fun k => k = b0) w w')) := by
 have hR := Fr.refl (fun k => k = b0) w
 refine At.enterCD (N := 8) Tryz.func85 rfl rfl (by simp) [(0, .pointer (some ⟨bp, 0, none⟩))] (by simp) ?_
 refine .region (.load rfl (Ld.ownCell ag98 hbp rfl) rfl (.nilCheck rfl rfl (.fieldAddr rfl fo102_1 rfl (.load rfl (Ld.ownCell ag3 hb0 rfl) rfl (.sub' rfl rfl rfl (.nilCheck rfl rfl (.fieldAddr rfl fo102_1 rfl ?_)))))))
 refine At.store1 rfl rfl hb0 sz3 (by simp) rfl (fun w1 S1 => ?_)
 replace hb0 : w1.heap[b0]? = some (.cells #[v, .int .i64 en, .int .i64 (IntKind.i64.wrap (d1 - 1))] 102) := S1.new
 replace hR := hR.setF S1 (.inl rfl)
 refine .ops0 (.doneN (ResV.nil) ?_)
 exact ⟨⟨_, rfl⟩, hb0, hR⟩
theorem kids_any {wB : World} {b0 : Nat} {en dp : Int} (ts : List Tk) (v : Value) (M : List (Option Nat)) (bx bp : Nat) (k a : Int) (nm pm : ByteArray) (n : Int) (vs : Value) (ss : List ByteArray) (ex : List Tk → PR ST) (w : World) (hB0 : Below wB.heap.size wB w) (hSge : ∀ k, (k = b0 ∨ k = bx) → wB.heap.size ≤ k) (hts : RowsAt wB v 4 (ts.map Tk.cs)) (hb0 : w.heap[b0]? = some (.cells #[v, .int .i64 en, .int .i64 dp] 102)) (hbx : w.heap[bx]? = some (.cells #[.int .i64 k, .int .i64 a, .string nm, .string pm, .int .i64 n, .slice none 0 0, .slice none 0 0, zI, zS, zI, .slice none 0 0, .slice none 0 0, zI, .slice none 0 0, zI, zI, zS, zI, .slice none 0 0, .slice none 0 0, zI] 31)) (hbp : w.heap[bp]? = some (.cells #[.pointer (some ⟨b0, 0, none⟩)] 98)) (hwd : OwnS 9 w vs ss) (hMl : MLt w.heap.size M) (hssl : ss.length ≤ 100) (hbig : ts.length ≤ 100000000) (hxs : ∀ ts, (ex ts).Sh ts.length) (hex : ExC en dp ex) (hg : (kidsP en ex ss [] ts).isOk = true) :
  Calls Tryz.prog 86 ([vs, .pointer (some ⟨bp, 0, none⟩), .pointer (some ⟨bx, 0, none⟩)] : List Value).toArray w fun e w' => RetP (fun k => k = b0 ∨ k = bx) wB b0 en dp (fun xs val w' => val = .tuple #[] ∧ w'.heap[bp]? = some (.cells #[.pointer (some ⟨b0, 0, none⟩)] 98) ∧ ∃ vo es, w'.heap[bx]? = some (.cells #[.int .i64 k, .int .i64 a, .string nm, .string pm, .int .i64 n, vo, .slice none 0 0, zI, zS, zI, .slice none 0 0, .slice none 0 0, zI, .slice none 0 0, zI, zI, zS, zI, .slice none 0 0, .slice none 0 0, zI] 31) ∧ OwnR 31 21 Tm.cs w' vo es ∧ (∀ g, Value.ownBlock vo = some g → w.heap.size ≤ g) ∧ Xs kTm (vo.ownBlock :: some b0 :: some bx :: M) w' es ∧ MTL w xs es ∧ some bx ≠ vo.ownBlock) (kidsP en ex ss [] ts) w e w' := by
 have n_b0_bp : b0 ≠ bp := ne_ty hb0 hbp rfl; have n_b0_bx : b0 ≠ bx := ne_ty hb0 hbx rfl; have n_bp_bx : bp ≠ bx := ne_ty hbp hbx rfl; have htl := hts.lenL
 have hR := Fr.refl (fun k => k = b0 ∨ k = bx) w
 have hB := hB0
 refine At.enter (N := 26) Tryz.func86 rfl rfl (by simp) [(0, vs), (1, .pointer (some ⟨bp, 0, none⟩)), (2, .pointer (some ⟨bx, 0, none⟩))] (by simp) ?_
 refine .seq (.region (.move rfl rfl (.lenSl rfl (hwd.strs).ok el25 rfl (.move rfl rfl (.ops0 (.thenN (.block ?_)))))))
 refine At.loop (Nat × List Tk × Value × Value × List Tm × List ST) (fun (j, us, vr, vo, es, xs) => [(1, .pointer (some ⟨bp, 0, none⟩)), (2, .pointer (some ⟨bx, 0, none⟩)), (6, vs), (7, .int .i64 (ss.length : Int)), (8, .int .i64 (j : Int))]) (fun (j, us, vr, vo, es, xs) w1 => Fr (fun k => k = b0 ∨ k = bx) w w1 ∧ w1.heap[b0]? = some (.cells #[vr, .int .i64 en, .int .i64 dp] 102) ∧ w1.heap[bp]? = some (.cells #[.pointer (some ⟨b0, 0, none⟩)] 98) ∧ w1.heap[bx]? = some (.cells #[.int .i64 k, .int .i64 a, .string nm, .string pm, .int .i64 n, vo, zN, zI, zS, zI, zN, zN, zI, zN, zI, zI, zS, zI, zN, zN, zI] 31) ∧ OwnS 9 w1 vs ss ∧ OwnR 31 21 Tm.cs w1 vo es ∧ Xs kTm (Value.ownBlock vo :: some b0 :: some bx :: M) w1 es ∧ (j ≤ ss.length) ∧ (RowsAt wB vr 4 (us.map Tk.cs)) ∧ (kidsP en ex ss [] ts = kidsP en ex (ss.drop j) xs us) ∧ (∀ g, Value.ownBlock vo = some g → w.heap.size ≤ g) ∧ (MTL w xs es) ∧ (es.length = j) ∧ (some bx ≠ Value.ownBlock vo) ∧ (us.length ≤ ts.length)) (fun (j, us, vr, vo, es, xs) => ss.length - j) (0, ts, v, zN, [], []) (sC rfl (sC rfl (sC rfl (sC rfl (sC rfl sN))))) ⟨hR, hb0, hbp, hbx, hwd, OwnR.nil 31 21 Tm.cs _, (Xs.nil _ _ _), (Nat.zero_le _), (hts), (rfl), (fun g h => by cases h), (MTL.nil _), (rfl), (fun h => by cases h), lR⟩ (fun gh w1 hI => ?_)
 obtain ⟨j, us, vr, vo, es, xs⟩ := gh
 clear hR hB hb0 hbp hbx hwd
 obtain ⟨hR, hb0, hbp, hbx, hwd, hO, hX, hkb, hus, hs, gOo, hMT, hll, hnx, hle⟩ := hI
 show At _ _ [(1, .pointer (some ⟨bp, 0, none⟩)), (2, .pointer (some ⟨bx, 0, none⟩)), (6, vs), (7, .int .i64 (ss.length : Int)), (8, .int .i64 (j : Int))] _ _
 refine .seq (.region (.lss rfl rfl rfl (.ops0 (.thenN (.seq ?_)))))
 refine At.cond (b := decide ((j : Int) < (ss.length : Int))) rfl (fun hc1 => ?_) (fun hc1 => ?_)
 ·skip
  have hc1' := of_decide_eq_true hc1
  refine .skip (.thenN (.seq (.block (.seq (.region ?_)))))
  obtain ⟨u1, hu1⟩ := some_of_lt (l := ss) (i := j) (by first | omega | (simp; done) | (simp; omega))
  refine .indexAddr (i := j) rfl rfl (hwd.strs).ok (lt_of_some hu1) el25 sz9 rfl (.load rfl (Ld.cell ag9 (cell_keep ((hwd.strs).get hu1) (Below.refl _ _))) rfl (.assign rfl rfl (.ops0 (.thenN (.seq (.region (.load rfl (Ld.ownCell ag98 hbp rfl) rfl (.move rfl rfl ?_))))))))
  refine At.buildSlice (xs := [.tmp 13]) rfl rfl el25 sz9 ze9 (by intro v hv; simp only [List.mem_cons, List.not_mem_nil, or_false] at hv; rcases hv with rfl <;> first | rfl | simp [Value.cells]) rfl (by decide) rfl (fun b1 w2 F1 => ?_)
  have q_hwd_b1 : some b1 ≠ Value.ownBlock vs := Own.neFresh hwd F1
  have n_b0_b1 := F1.ne' hb0
  replace hb0 := F1.old hb0
  replace hbp := F1.old hbp
  replace hbx := F1.old hbx
  replace hwd := hwd.fresh F1
  replace hO := hO.fresh F1
  replace hX := Xs.fresh hX F1
  have hb1 : w2.heap[b1]? = some (.cells #[.string u1] 9) := F1.new
  replace hR := hR.freshF F1
  replace hB := Fr.below hR hB0 hB0.size hSge
  refine At.call en78 rfl rfl (ptext_any us vr (.slice (some ⟨b1, 0, none⟩) 1 1) ([u1]) _ hB (fun k hk => hSge k (.inl hk)) hus hb0 ((StrsAt.own (ss := [u1]) hb1 rfl (by decide) : StrsAt _ (.slice (some ⟨b1, 0, none⟩) 1 1) [u1])) (fun _ => show b1 ≠ b0 from n_b0_b1.symm) (PR.sub hg (by rw [hs, drop_cons hu1, kidsP]; (try simp only [SB, hc1]); repeat constructor))) (fun e wp1 hR' => ?_)
  obtain ⟨x1, us1, val1, vr1, hq1, rfl, hF1, hts1, hbo1, ho1⟩ := hR'
  refine ⟨_, rfl, ?_⟩
  replace hbp := Fr.oldB hF1 hbp (n_b0_bp.symm)
  replace hbx := Fr.oldB hF1 hbx (n_b0_bx.symm)
  replace hb1 := Fr.oldB hF1 hb1 (n_b0_b1.symm)
  replace hwd := OwnS.frB hwd hF1 hb0 rfl
  replace hO := OwnR.frB hO hF1 hb0 rfl
  replace hX := Xs.frS hX hF1 (by rintro k rfl; simp)
  replace hb0 := hbo1
  have hsz1 := hR.size
  replace hR := Fr.then hR hF1 (fun k hk => .inl (.inl hk))
  replace hB := Fr.below hR hB0 hB0.size hSge
  obtain rfl := ho1
  refine .ops0 (.thenN ?_)
  obtain ⟨u2, hu2⟩ := some_of_lt (l := (es ++ [zeroTm])) (i := es.length) (by first | omega | (simp; done) | (simp; omega))
  refine .drawG (n := 11) mixed (by kernel_rfl) rfl (PanicOk.block (PanicOk.then (PanicOk.then (PanicOk.block PanicOk.body)))) ?_
  have hR := Fr.drewF hR
  have hB := Below.drewB hB
  have hb0 : _ := (show wp1.drew.heap[b0]? = _ from hb0)
  have hbp : _ := (show wp1.drew.heap[bp]? = _ from hbp)
  have hbx : _ := (show wp1.drew.heap[bx]? = _ from hbx)
  have hb1 : _ := (show wp1.drew.heap[b1]? = _ from hb1)
  have hwd := hwd.drew
  have hO := hO.drew
  have hX := Xs.drew hX
  refine .wpcS (i := 0) (d := 16) (.pointer (some ⟨bx, 0 + 5, none⟩)) (by kernel_rfl) rfl rfl rfl (fun Lx => .fieldAddr rfl fo31_5 rfl (.ops0 fun a ha => ⟨ha, rfl⟩)) ?_
  refine .wpcS (i := 1) (d := 17) (vo) (by kernel_rfl) rfl rfl rfl (fun Lx => .load rfl (Ld.ownCell ag22 hbx rfl) rfl (.ops0 fun a ha => ⟨ha, rfl⟩)) ?_
  refine .wpcS (i := 2) (d := 18) (.pointer (some ⟨b0, 0, none⟩)) (by kernel_rfl) rfl rfl rfl (fun Lx => .load rfl (Ld.ownCell ag98 hbp rfl) rfl (.ops0 fun a ha => ⟨ha, rfl⟩)) ?_
  refine .wpcS (i := 4) (d := 20) (.int .i64 (es.length : Int)) (by kernel_rfl) rfl rfl rfl (fun Lx => .lenSl rfl (Own.slOk hO) el22 rfl (.ops0 fun a ha => ⟨ha, rfl⟩)) ?_
  refine At.wpcE [3, 5] (by kernel_rfl) (by kernel_rfl) (.cons [0, 1, 4] rfl (by kernel_rfl) ?_ (.cons [0, 1, 2, 4] rfl (by kernel_rfl) ?_ .nil))
  ·skip
   have hml2 : MLt wp1.drew.heap.size (some b0 :: some bp :: some bx :: some b1 :: Value.ownBlock vo :: M) := (MLt.blk hb0 (MLt.blk hbp (MLt.blk hbx (MLt.blk hb1 (MLt.own hO ((MLt.mono hMl hR.size)))))))
   refine At.call en62 rfl rfl (hex wB b0 us1 vr1 _ hB (fun k hk => hSge k (.inl hk)) hts1 hb0 (by have := hle; have := PR.Le.of (text_le en ([u1]) us) hq1; omega) (PR.sub hg (by rw [hs, drop_cons hu1, kidsP]; (try simp only [SB, hc1, hq1]); repeat constructor))) (fun e wp2 hR' => ?_)
   obtain ⟨x2, us2, val2, vr2, hq2, rfl, hF2, hts2, hbo2, ho2⟩ := hR'
   refine ⟨_, rfl, ?_⟩
   replace hbp := Fr.oldB hF2 hbp (n_b0_bp.symm)
   replace hbx := Fr.oldB hF2 hbx (n_b0_bx.symm)
   replace hwd := OwnS.frB hwd hF2 hb0 rfl
   replace hO := OwnR.frB hO hF2 hb0 rfl
   replace hX := Xs.frS hX hF2 (by rintro k rfl; simp)
   replace hb0 := hbo2
   have hsz2 := hR.size
   replace hR := Fr.then hR hF2 (fun k hk => .inl (.inl hk))
   obtain ⟨tm2, rfl, htm2, hmt2⟩ := ho2
   have hx2 := Xs.of_new (B := 0) (M := (some b0 :: some bp :: some bx :: some b1 :: Value.ownBlock vo :: M)) (K := kTm) htm2 (fun b hb => .inr (hmt2.blk b hb)) (fun _ _ => Nat.zero_le _) hml2
   replace hmt2 := hmt2.mono hsz2
   refine .ops0 ?_
   refine At.wpcN (.cons rfl rfl rfl rfl (fun Lx => ?_) (.cons rfl rfl rfl rfl (fun Lx => ?_) (.cons rfl rfl rfl rfl (fun Lx => ?_) .nil))) ?_
   ·skip
    exact .fieldAddr rfl fo31_5 rfl (.ops0 fun a ha => ⟨ha, rfl⟩)
   ·skip
    exact .load rfl (Ld.ownCell ag22 hbx rfl) rfl (.ops0 fun a ha => ⟨ha, rfl⟩)
   ·skip
    exact .lenSl rfl (Own.slOk hO) el22 rfl (.ops0 fun a ha => ⟨ha, rfl⟩)
   refine At.wpcE [5] (by kernel_rfl) (by kernel_rfl) (.cons [0, 1, 4] rfl (by kernel_rfl) ?_ .nil)
   refine At.buildSlice (xs := [.const (.agg #[zI, zI, zS, zS, zI, zN, zN, zI, zS, zI, zN, zN, zI, zN, zI, zI, zS, zI, zN, zN, zI])]) rfl rfl el22 sz31 ze31 (by intro v hv; simp only [List.mem_cons, List.not_mem_nil, or_false] at hv; rcases hv with rfl <;> first | rfl | simp [Value.cells, ((zeroTm_ok _)).size]) rfl (by decide) rfl (fun b2 w3 F2 => ?_)
   have q_hO_b2 : some b2 ≠ Value.ownBlock vo := Own.neFresh hO F2
   replace hb0 := F2.old hb0
   replace hbp := F2.old hbp
   replace hbx := F2.old hbx
   replace hwd := hwd.fresh F2
   replace hO := hO.fresh F2
   replace hX := Xs.fresh hX F2
   replace hx2 := Xs.fresh hx2 F2
   have hb2 : w3.heap[b2]? = some (.cells (([zeroTm].map Tm.cs).flatMap (·.toList)).toArray 31) := F2.new
   replace hR := hR.freshF F2
   refine .ops0 ?_
   refine At.wpcN (.cons rfl rfl rfl rfl (fun Lx => ?_) (.cons rfl rfl rfl rfl (fun Lx => ?_) (.cons rfl rfl rfl rfl (fun Lx => ?_) .nil))) ?_
   ·skip
    exact .fieldAddr rfl fo31_5 rfl (.ops0 fun a ha => ⟨ha, rfl⟩)
   ·skip
    exact .load rfl (Ld.ownCell ag22 hbx rfl) rfl (.ops0 fun a ha => ⟨ha, rfl⟩)
   ·skip
    exact .lenSl rfl (Own.slOk hO) el22 rfl (.ops0 fun a ha => ⟨ha, rfl⟩)
   refine At.wpcE [6] (by kernel_rfl) (by kernel_rfl) (.cons [] rfl (by kernel_rfl) ?_ .nil)
   refine At.appendR (f := Tm.cs) rfl rfl el22 el22 sz31 by31 ze31 rfl hO (rows_tm (m := 1) hb2 (mem1 (Q := fun u => TmOk w3 u) (((zeroTm_ok _)).keep (Below.refl _ _))) rfl (by decide)) (by decide) (fun u hu => (((mem1 (Q := fun u => TmOk w3 u) (((zeroTm_ok _)).keep (Below.refl _ _)))) u hu).one) (by first | omega | (simp; omega)) (by first | omega | (simp; omega)) rfl (fun va1 w4 hO1 hA1 => ?_)
   replace hO1 : OwnR 31 21 Tm.cs w4 va1 (es ++ [zeroTm]) := hO1
   replace hb0 := hA1.old hb0 (hO.neT hb0 rfl)
   replace hbp := hA1.old hbp (hO.neT hbp rfl)
   have q_hO1_bx : some bx ≠ Value.ownBlock va1 := Moved.ne hA1.blk (Array.getElem?_eq_some_iff.1 hbx).1 hnx
   replace hbx := hA1.old hbx hnx
   clear hb2
   replace hwd := OwnS.keepT hA1 hO hwd rfl
   replace hX := Xs.app hX hA1 (.inr (by simp))
   replace hx2 := Xs.app hx2 hA1 (.inr (by simp))
   have ghO1 := hA1.ge hR.size gOo
   replace hR := hR.appF hA1 (fun g hg => .inr (gOo g hg))
   refine .ops0 (.wpcN .nil ?_)
   refine .wpcS (i := 7) (d := 23) (.pointer (some ⟨vBlock va1, vOff va1 + es.length * 21, none⟩)) (by kernel_rfl) rfl rfl rfl (fun Lx => .indexAddr (i := es.length) rfl rfl (Own.slOk hO1) (lt_of_some hu2) el22 sz31 rfl (.ops0 fun a ha => ⟨ha, rfl⟩)) ?_
   refine .wpcS (i := 9) (d := 24) (.pointer (some ⟨bx, 0 + 5, none⟩)) (by kernel_rfl) rfl rfl rfl (fun Lx => .fieldAddr rfl fo31_5 rfl (.ops0 fun a ha => ⟨ha, rfl⟩)) ?_
   refine At.wpcE [8, 10] (by kernel_rfl) (by kernel_rfl) (.cons [9] rfl (by kernel_rfl) ?_ (.cons [7] rfl (by kernel_rfl) ?_ .nil))
   ·skip
    refine At.storeRow (f := Tm.cs) (i := es.length) (off := 0) tm2 rfl rfl hO1 hu2 (fun u hu => (((all_app (Q := fun u => TmOk w4 u) (Xs.ok hX) (mem1 (Q := fun u => TmOk w4 u) (((zeroTm_ok _)).keep (Below.refl _ _))))) u hu).size) (by omega) (sz31.trans (congrArg some ((Xs.one hx2)).size.symm)) (splice_all (((((all_app (Q := fun u => TmOk w4 u) (Xs.ok hX) (mem1 (Q := fun u => TmOk w4 u) (((zeroTm_ok _)).keep (Below.refl _ _))))) u2 (List.mem_of_getElem? hu2))).size.trans ((Xs.one hx2)).size.symm)).symm (by show 0 + tm2.cs.size ≤ 21; rw [((Xs.one hx2)).size]; decide) ((Xs.one hx2)).one (fun w5 hO2 hA2 => ?_)
    replace hb0 := hA2.old hb0 (hO1.neT hb0 rfl)
    replace hbp := hA2.old hbp (hO1.neT hbp rfl)
    replace hbx := hA2.old hbx q_hO1_bx
    replace hwd := OwnS.keepT hA2 hO1 hwd rfl
    replace hX := Xs.app hX hA2 (.inr (by simp))
    replace hx2 := Xs.app hx2 hA2 (.inr (by simp))
    replace hR := hR.appF hA2 (fun g hg => .inr (ghO1 g hg))
    refine .ops0 ?_
    refine At.wpcN (.cons rfl rfl rfl rfl (fun Lx => ?_) .nil) ?_
    ·skip
     exact .fieldAddr rfl fo31_5 rfl (.ops0 fun a ha => ⟨ha, rfl⟩)
    refine At.wpcE [10] (by kernel_rfl) (by kernel_rfl) (.cons [] rfl (by kernel_rfl) ?_ .nil)
    refine At.store1 rfl rfl hbx sz22 (by simp) (hO2).one (fun w6 S1 => ?_)
    replace hb0 := S1.other hb0 n_b0_bx
    replace hbp := S1.other hbp n_bp_bx
    replace hwd := hwd.set S1 (hwd.neT hbx rfl)
    replace hO2 := hO2.set S1 q_hO1_bx
    replace hX := Xs.set hX S1 (by simp)
    replace hx2 := Xs.set hx2 S1 (by simp)
    replace hbx : w6.heap[bx]? = some (.cells #[.int .i64 k, .int .i64 a, .string nm, .string pm, .int .i64 n, va1, zN, zI, zS, zI, zN, zN, zI, zN, zI, zI, zS, zI, zN, zN, zI] 31) := S1.new
    replace hR := hR.setF S1 (.inl (.inr rfl))
    refine .ops0 (.wpcN .nil (.wpcZ (.inN (.thenN (.region (.addI rfl rfl rfl (by first | omega | (simp; done) | (simp; omega)) (.move rfl rfl (.ops0 (.thenN ?_)))))))))
    exact fun act_ hact_ => ⟨((j + 1), us2, vr2, va1, (es ++ [tm2]), (xs ++ [x2])), hact_.sub (sC rfl (sC rfl (sC rfl (sC rfl (sC rfl sN))))), ⟨hR, hb0, hbp, hbx, hwd, (by have q := hO2; rw [set_snoc] at q; exact q), (Xs.append (Xs.weaken (M' := (Value.ownBlock va1 :: some b0 :: some bx :: M)) hX (SubM.cons (.head _) (SubM.cons (.tail _ (.tail _ (.tail _ (.tail _ (.tail _ (.head _)))))) (SubM.cons (.tail _ (.tail _ (.tail _ (.tail _ (.tail _ (.tail _ (.head _))))))) (fun o h => (.tail _ (.tail _ (.tail _ (.tail _ (.tail _ (.tail _ (.tail _ h)))))))))))) (Xs.weaken (M' := (Value.ownBlock va1 :: some b0 :: some bx :: M)) hx2 (SubM.cons (.head _) (SubM.cons (.tail _ (.tail _ (.tail _ (.head _)))) (SubM.cons (.tail _ (.tail _ (.tail _ (.tail _ (.tail _ (.head _)))))) (fun o h => (.tail _ (.tail _ (.tail _ (.tail _ (.tail _ (.tail _ (.tail _ (.tail _ h)))))))))))))), (by omega), (hts2), (by rw [hs, drop_cons hu1, kidsP]; simp only [hc1, hq1, hq2, PR.bind_ok]), (ghO1), (MTL.snoc hMT hmt2), (by simp [hll]), (q_hO1_bx), (by have := hle; have := PR.Le.of (text_le en ([u1]) us) hq1; have := PR.Sh.of (hxs us1) hq2; omega)⟩, by first | omega | (dsimp only; omega)⟩
   refine At.store1 rfl rfl hbx sz22 (by simp) (hO1).one (fun w7 S2 => ?_)
   replace hb0 := S2.other hb0 n_b0_bx
   replace hbp := S2.other hbp n_bp_bx
   replace hwd := hwd.set S2 (hwd.neT hbx rfl)
   replace hO1 := hO1.set S2 q_hO1_bx
   replace hX := Xs.set hX S2 (by simp)
   replace hx2 := Xs.set hx2 S2 (by simp)
   replace hbx : w7.heap[bx]? = some (.cells #[.int .i64 k, .int .i64 a, .string nm, .string pm, .int .i64 n, va1, zN, zI, zS, zI, zN, zN, zI, zN, zI, zI, zS, zI, zN, zN, zI] 31) := S2.new
   replace hR := hR.setF S2 (.inl (.inr rfl))
   refine .ops0 ?_
   refine At.wpcN (.cons rfl rfl rfl rfl (fun Lx => ?_) .nil) ?_
   ·skip
    exact .indexAddr (i := es.length) rfl rfl (Own.slOk hO1) (lt_of_some hu2) el22 sz31 rfl (.ops0 fun a ha => ⟨ha, rfl⟩)
   refine At.wpcE [8] (by kernel_rfl) (by kernel_rfl) (.cons [] rfl (by kernel_rfl) ?_ .nil)
   refine At.storeRow (f := Tm.cs) (i := es.length) (off := 0) tm2 rfl rfl hO1 hu2 (fun u hu => (((all_app (Q := fun u => TmOk w7 u) (Xs.ok hX) (mem1 (Q := fun u => TmOk w7 u) (((zeroTm_ok _)).keep (Below.refl _ _))))) u hu).size) (by omega) (sz31.trans (congrArg some ((Xs.one hx2)).size.symm)) (splice_all (((((all_app (Q := fun u => TmOk w7 u) (Xs.ok hX) (mem1 (Q := fun u => TmOk w7 u) (((zeroTm_ok _)).keep (Below.refl _ _))))) u2 (List.mem_of_getElem? hu2))).size.trans ((Xs.one hx2)).size.symm)).symm (by show 0 + tm2.cs.size ≤ 21; rw [((Xs.one hx2)).size]; decide) ((Xs.one hx2)).one (fun w8 hO3 hA3 => ?_)
   replace hb0 := hA3.old hb0 (hO1.neT hb0 rfl)
   replace hbp := hA3.old hbp (hO1.neT hbp rfl)
   replace hbx := hA3.old hbx q_hO1_bx
   replace hwd := OwnS.keepT hA3 hO1 hwd rfl
   replace hX := Xs.app hX hA3 (.inr (by simp))
   replace hx2 := Xs.app hx2 hA3 (.inr (by simp))
   replace hR := hR.appF hA3 (fun g hg => .inr (ghO1 g hg))
   refine .ops0 (.wpcN .nil (.wpcZ (.inN (.thenN (.region (.addI rfl rfl rfl (by first | omega | (simp; done) | (simp; omega)) (.move rfl rfl (.ops0 (.thenN ?_)))))))))
   exact fun act_ hact_ => ⟨((j + 1), us2, vr2, va1, (es ++ [tm2]), (xs ++ [x2])), hact_.sub (sC rfl (sC rfl (sC rfl (sC rfl (sC rfl sN))))), ⟨hR, hb0, hbp, hbx, hwd, (by have q := hO3; rw [set_snoc] at q; exact q), (Xs.append (Xs.weaken (M' := (Value.ownBlock va1 :: some b0 :: some bx :: M)) hX (SubM.cons (.head _) (SubM.cons (.tail _ (.tail _ (.tail _ (.tail _ (.tail _ (.head _)))))) (SubM.cons (.tail _ (.tail _ (.tail _ (.tail _ (.tail _ (.tail _ (.head _))))))) (fun o h => (.tail _ (.tail _ (.tail _ (.tail _ (.tail _ (.tail _ (.tail _ h)))))))))))) (Xs.weaken (M' := (Value.ownBlock va1 :: some b0 :: some bx :: M)) hx2 (SubM.cons (.head _) (SubM.cons (.tail _ (.tail _ (.tail _ (.head _)))) (SubM.cons (.tail _ (.tail _ (.tail _ (.tail _ (.tail _ (.head _)))))) (fun o h => (.tail _ (.tail _ (.tail _ (.tail _ (.tail _ (.tail _ (.tail _ (.tail _ h)))))))))))))), (by omega), (hts2), (by rw [hs, drop_cons hu1, kidsP]; simp only [hc1, hq1, hq2, PR.bind_ok]), (ghO1), (MTL.snoc hMT hmt2), (by simp [hll]), (q_hO1_bx), (by have := hle; have := PR.Le.of (text_le en ([u1]) us) hq1; have := PR.Sh.of (hxs us1) hq2; omega)⟩, by first | omega | (dsimp only; omega)⟩
  refine At.buildSlice (xs := [.const (.agg #[zI, zI, zS, zS, zI, zN, zN, zI, zS, zI, zN, zN, zI, zN, zI, zI, zS, zI, zN, zN, zI])]) rfl rfl el22 sz31 ze31 (by intro v hv; simp only [List.mem_cons, List.not_mem_nil, or_false] at hv; rcases hv with rfl <;> first | rfl | simp [Value.cells, ((zeroTm_ok _)).size]) rfl (by decide) rfl (fun b3 w9 F3 => ?_)
  have q_hO_b3 : some b3 ≠ Value.ownBlock vo := Own.neFresh hO F3
  have n_b0_b3 := F3.ne' hb0
  replace hb0 := F3.old hb0
  replace hbp := F3.old hbp
  replace hbx := F3.old hbx
  replace hb1 := F3.old hb1
  replace hwd := hwd.fresh F3
  replace hO := hO.fresh F3
  replace hX := Xs.fresh hX F3
  have hb3 : w9.heap[b3]? = some (.cells (([zeroTm].map Tm.cs).flatMap (·.toList)).toArray 31) := F3.new
  replace hR := hR.freshF F3
  replace hB := Fr.below hR hB0 hB0.size hSge
  refine .ops0 ?_
  refine At.wpcN (.cons rfl rfl rfl rfl (fun Lx => ?_) (.cons rfl rfl rfl rfl (fun Lx => ?_) (.cons rfl rfl rfl rfl (fun Lx => ?_) (.cons rfl rfl rfl rfl (fun Lx => ?_) .nil)))) ?_
  ·skip
   exact .fieldAddr rfl fo31_5 rfl (.ops0 fun a ha => ⟨ha, rfl⟩)
  ·skip
   exact .load rfl (Ld.ownCell ag22 hbx rfl) rfl (.ops0 fun a ha => ⟨ha, rfl⟩)
  ·skip
   exact .load rfl (Ld.ownCell ag98 hbp rfl) rfl (.ops0 fun a ha => ⟨ha, rfl⟩)
  ·skip
   exact .lenSl rfl (Own.slOk hO) el22 rfl (.ops0 fun a ha => ⟨ha, rfl⟩)
  refine At.wpcE [3] (by kernel_rfl) (by kernel_rfl) (.cons [0, 1, 4] rfl (by kernel_rfl) ?_ .nil)
  have hml3 : MLt w9.heap.size (some b0 :: some bp :: some bx :: some b1 :: some b3 :: Value.ownBlock vo :: M) := (MLt.blk hb0 (MLt.blk hbp (MLt.blk hbx (MLt.blk hb1 (MLt.blk hb3 (MLt.own hO ((MLt.mono hMl hR.size))))))))
  refine At.call en62 rfl rfl (hex wB b0 us1 vr1 _ hB (fun k hk => hSge k (.inl hk)) hts1 hb0 (by have := hle; have := PR.Le.of (text_le en ([u1]) us) hq1; omega) (PR.sub hg (by rw [hs, drop_cons hu1, kidsP]; (try simp only [SB, hc1, hq1]); repeat constructor))) (fun e wp3 hR' => ?_)
  obtain ⟨x3, us3, val3, vr3, hq3, rfl, hF3, hts3, hbo3, ho3⟩ := hR'
  refine ⟨_, rfl, ?_⟩
  replace hbp := Fr.oldB hF3 hbp (n_b0_bp.symm)
  replace hbx := Fr.oldB hF3 hbx (n_b0_bx.symm)
  replace hb3 := Fr.oldB hF3 hb3 (n_b0_b3.symm)
  replace hwd := OwnS.frB hwd hF3 hb0 rfl
  replace hO := OwnR.frB hO hF3 hb0 rfl
  replace hX := Xs.frS hX hF3 (by rintro k rfl; simp)
  replace hb0 := hbo3
  have hsz3 := hR.size
  replace hR := Fr.then hR hF3 (fun k hk => .inl (.inl hk))
  obtain ⟨tm3, rfl, htm3, hmt3⟩ := ho3
  have hx3 := Xs.of_new (B := 0) (M := (some b0 :: some bp :: some bx :: some b1 :: some b3 :: Value.ownBlock vo :: M)) (K := kTm) htm3 (fun b hb => .inr (hmt3.blk b hb)) (fun _ _ => Nat.zero_le _) hml3
  replace hmt3 := hmt3.mono hsz3
  refine .ops0 ?_
  refine At.wpcN (.cons rfl rfl rfl rfl (fun Lx => ?_) (.cons rfl rfl rfl rfl (fun Lx => ?_) (.cons rfl rfl rfl rfl (fun Lx => ?_) .nil))) ?_
  ·skip
   exact .fieldAddr rfl fo31_5 rfl (.ops0 fun a ha => ⟨ha, rfl⟩)
  ·skip
   exact .load rfl (Ld.ownCell ag22 hbx rfl) rfl (.ops0 fun a ha => ⟨ha, rfl⟩)
  ·skip
   exact .lenSl rfl (Own.slOk hO) el22 rfl (.ops0 fun a ha => ⟨ha, rfl⟩)
  refine At.wpcE [6] (by kernel_rfl) (by kernel_rfl) (.cons [] rfl (by kernel_rfl) ?_ .nil)
  refine At.appendR (f := Tm.cs) rfl rfl el22 el22 sz31 by31 ze31 rfl hO (rows_tm (m := 1) hb3 (mem1 (Q := fun u => TmOk wp3 u) (((zeroTm_ok _)).keep (Below.refl _ _))) rfl (by decide)) (by decide) (fun u hu => (((mem1 (Q := fun u => TmOk wp3 u) (((zeroTm_ok _)).keep (Below.refl _ _)))) u hu).one) (by first | omega | (simp; omega)) (by first | omega | (simp; omega)) rfl (fun va2 w10 hO4 hA4 => ?_)
  replace hO4 : OwnR 31 21 Tm.cs w10 va2 (es ++ [zeroTm]) := hO4
  replace hb0 := hA4.old hb0 (hO.neT hb0 rfl)
  replace hbp := hA4.old hbp (hO.neT hbp rfl)
  have q_hO4_bx : some bx ≠ Value.ownBlock va2 := Moved.ne hA4.blk (Array.getElem?_eq_some_iff.1 hbx).1 hnx
  replace hbx := hA4.old hbx hnx
  clear hb3
  replace hwd := OwnS.keepT hA4 hO hwd rfl
  replace hX := Xs.app hX hA4 (.inr (by simp))
  replace hx3 := Xs.app hx3 hA4 (.inr (by simp))
  have ghO4 := hA4.ge hR.size gOo
  replace hR := hR.appF hA4 (fun g hg => .inr (gOo g hg))
  refine .ops0 (.wpcN .nil ?_)
  obtain ⟨u3, hu3⟩ := some_of_lt (l := (es ++ [zeroTm])) (i := es.length) (by first | omega | (simp; done) | (simp; omega))
  refine .wpcS (i := 7) (d := 23) (.pointer (some ⟨vBlock va2, vOff va2 + es.length * 21, none⟩)) (by kernel_rfl) rfl rfl rfl (fun Lx => .indexAddr (i := es.length) rfl rfl (Own.slOk hO4) (lt_of_some hu3) el22 sz31 rfl (.ops0 fun a ha => ⟨ha, rfl⟩)) ?_
  refine .wpcS (i := 9) (d := 24) (.pointer (some ⟨bx, 0 + 5, none⟩)) (by kernel_rfl) rfl rfl rfl (fun Lx => .fieldAddr rfl fo31_5 rfl (.ops0 fun a ha => ⟨ha, rfl⟩)) ?_
  refine At.wpcE [8, 10] (by kernel_rfl) (by kernel_rfl) (.cons [9] rfl (by kernel_rfl) ?_ (.cons [7] rfl (by kernel_rfl) ?_ .nil))
  ·skip
   refine At.storeRow (f := Tm.cs) (i := es.length) (off := 0) tm3 rfl rfl hO4 hu3 (fun u hu => (((all_app (Q := fun u => TmOk w10 u) (Xs.ok hX) (mem1 (Q := fun u => TmOk w10 u) (((zeroTm_ok _)).keep (Below.refl _ _))))) u hu).size) (by omega) (sz31.trans (congrArg some ((Xs.one hx3)).size.symm)) (splice_all (((((all_app (Q := fun u => TmOk w10 u) (Xs.ok hX) (mem1 (Q := fun u => TmOk w10 u) (((zeroTm_ok _)).keep (Below.refl _ _))))) u3 (List.mem_of_getElem? hu3))).size.trans ((Xs.one hx3)).size.symm)).symm (by show 0 + tm3.cs.size ≤ 21; rw [((Xs.one hx3)).size]; decide) ((Xs.one hx3)).one (fun w11 hO5 hA5 => ?_)
   replace hb0 := hA5.old hb0 (hO4.neT hb0 rfl)
   replace hbp := hA5.old hbp (hO4.neT hbp rfl)
   replace hbx := hA5.old hbx q_hO4_bx
   replace hwd := OwnS.keepT hA5 hO4 hwd rfl
   replace hX := Xs.app hX hA5 (.inr (by simp))
   replace hx3 := Xs.app hx3 hA5 (.inr (by simp))
   replace hR := hR.appF hA5 (fun g hg => .inr (ghO4 g hg))
   refine .ops0 ?_
   refine At.wpcN (.cons rfl rfl rfl rfl (fun Lx => ?_) .nil) ?_
   ·skip
    exact .fieldAddr rfl fo31_5 rfl (.ops0 fun a ha => ⟨ha, rfl⟩)
   refine At.wpcE [10] (by kernel_rfl) (by kernel_rfl) (.cons [] rfl (by kernel_rfl) ?_ .nil)
   refine At.store1 rfl rfl hbx sz22 (by simp) (hO5).one (fun w12 S3 => ?_)
   replace hb0 := S3.other hb0 n_b0_bx
   replace hbp := S3.other hbp n_bp_bx
   replace hwd := hwd.set S3 (hwd.neT hbx rfl)
   replace hO5 := hO5.set S3 q_hO4_bx
   replace hX := Xs.set hX S3 (by simp)
   replace hx3 := Xs.set hx3 S3 (by simp)
   replace hbx : w12.heap[bx]? = some (.cells #[.int .i64 k, .int .i64 a, .string nm, .string pm, .int .i64 n, va2, zN, zI, zS, zI, zN, zN, zI, zN, zI, zI, zS, zI, zN, zN, zI] 31) := S3.new
   replace hR := hR.setF S3 (.inl (.inr rfl))
   refine .ops0 (.wpcN .nil (.wpcZ (.inN (.thenN (.region (.addI rfl rfl rfl (by first | omega | (simp; done) | (simp; omega)) (.move rfl rfl (.ops0 (.thenN ?_)))))))))
   exact fun act_ hact_ => ⟨((j + 1), us3, vr3, va2, (es ++ [tm3]), (xs ++ [x3])), hact_.sub (sC rfl (sC rfl (sC rfl (sC rfl (sC rfl sN))))), ⟨hR, hb0, hbp, hbx, hwd, (by have q := hO5; rw [set_snoc] at q; exact q), (Xs.append (Xs.weaken (M' := (Value.ownBlock va2 :: some b0 :: some bx :: M)) hX (SubM.cons (.head _) (SubM.cons (.tail _ (.tail _ (.tail _ (.tail _ (.tail _ (.head _)))))) (SubM.cons (.tail _ (.tail _ (.tail _ (.tail _ (.tail _ (.tail _ (.head _))))))) (fun o h => (.tail _ (.tail _ (.tail _ (.tail _ (.tail _ (.tail _ (.tail _ h)))))))))))) (Xs.weaken (M' := (Value.ownBlock va2 :: some b0 :: some bx :: M)) hx3 (SubM.cons (.head _) (SubM.cons (.tail _ (.tail _ (.head _))) (SubM.cons (.tail _ (.tail _ (.tail _ (.tail _ (.head _))))) (fun o h => (.tail _ (.tail _ (.tail _ (.tail _ (.tail _ (.tail _ (.tail _ (.tail _ h)))))))))))))), (by omega), (hts3), (by rw [hs, drop_cons hu1, kidsP]; simp only [hc1, hq1, hq3, PR.bind_ok]), (ghO4), (MTL.snoc hMT hmt3), (by simp [hll]), (q_hO4_bx), (by have := hle; have := PR.Le.of (text_le en ([u1]) us) hq1; have := PR.Sh.of (hxs us1) hq3; omega)⟩, by first | omega | (dsimp only; omega)⟩
  refine At.store1 rfl rfl hbx sz22 (by simp) (hO4).one (fun w13 S4 => ?_)
  replace hb0 := S4.other hb0 n_b0_bx
  replace hbp := S4.other hbp n_bp_bx
  replace hwd := hwd.set S4 (hwd.neT hbx rfl)
  replace hO4 := hO4.set S4 q_hO4_bx
  replace hX := Xs.set hX S4 (by simp)
  replace hx3 := Xs.set hx3 S4 (by simp)
  replace hbx : w13.heap[bx]? = some (.cells #[.int .i64 k, .int .i64 a, .string nm, .string pm, .int .i64 n, va2, zN, zI, zS, zI, zN, zN, zI, zN, zI, zI, zS, zI, zN, zN, zI] 31) := S4.new
  replace hR := hR.setF S4 (.inl (.inr rfl))
  refine .ops0 ?_
  refine At.wpcN (.cons rfl rfl rfl rfl (fun Lx => ?_) .nil) ?_
  ·skip
   exact .indexAddr (i := es.length) rfl rfl (Own.slOk hO4) (lt_of_some hu3) el22 sz31 rfl (.ops0 fun a ha => ⟨ha, rfl⟩)
  refine At.wpcE [8] (by kernel_rfl) (by kernel_rfl) (.cons [] rfl (by kernel_rfl) ?_ .nil)
  refine At.storeRow (f := Tm.cs) (i := es.length) (off := 0) tm3 rfl rfl hO4 hu3 (fun u hu => (((all_app (Q := fun u => TmOk w13 u) (Xs.ok hX) (mem1 (Q := fun u => TmOk w13 u) (((zeroTm_ok _)).keep (Below.refl _ _))))) u hu).size) (by omega) (sz31.trans (congrArg some ((Xs.one hx3)).size.symm)) (splice_all (((((all_app (Q := fun u => TmOk w13 u) (Xs.ok hX) (mem1 (Q := fun u => TmOk w13 u) (((zeroTm_ok _)).keep (Below.refl _ _))))) u3 (List.mem_of_getElem? hu3))).size.trans ((Xs.one hx3)).size.symm)).symm (by show 0 + tm3.cs.size ≤ 21; rw [((Xs.one hx3)).size]; decide) ((Xs.one hx3)).one (fun w14 hO6 hA6 => ?_)
  replace hb0 := hA6.old hb0 (hO4.neT hb0 rfl)
  replace hbp := hA6.old hbp (hO4.neT hbp rfl)
  replace hbx := hA6.old hbx q_hO4_bx
  replace hwd := OwnS.keepT hA6 hO4 hwd rfl
  replace hX := Xs.app hX hA6 (.inr (by simp))
  replace hx3 := Xs.app hx3 hA6 (.inr (by simp))
  replace hR := hR.appF hA6 (fun g hg => .inr (ghO4 g hg))
  refine .ops0 (.wpcN .nil (.wpcZ (.inN (.thenN (.region (.addI rfl rfl rfl (by first | omega | (simp; done) | (simp; omega)) (.move rfl rfl (.ops0 (.thenN ?_)))))))))
  exact fun act_ hact_ => ⟨((j + 1), us3, vr3, va2, (es ++ [tm3]), (xs ++ [x3])), hact_.sub (sC rfl (sC rfl (sC rfl (sC rfl (sC rfl sN))))), ⟨hR, hb0, hbp, hbx, hwd, (by have q := hO6; rw [set_snoc] at q; exact q), (Xs.append (Xs.weaken (M' := (Value.ownBlock va2 :: some b0 :: some bx :: M)) hX (SubM.cons (.head _) (SubM.cons (.tail _ (.tail _ (.tail _ (.tail _ (.tail _ (.head _)))))) (SubM.cons (.tail _ (.tail _ (.tail _ (.tail _ (.tail _ (.tail _ (.head _))))))) (fun o h => (.tail _ (.tail _ (.tail _ (.tail _ (.tail _ (.tail _ (.tail _ h)))))))))))) (Xs.weaken (M' := (Value.ownBlock va2 :: some b0 :: some bx :: M)) hx3 (SubM.cons (.head _) (SubM.cons (.tail _ (.tail _ (.head _))) (SubM.cons (.tail _ (.tail _ (.tail _ (.tail _ (.head _))))) (fun o h => (.tail _ (.tail _ (.tail _ (.tail _ (.tail _ (.tail _ (.tail _ (.tail _ h)))))))))))))), (by omega), (hts3), (by rw [hs, drop_cons hu1, kidsP]; simp only [hc1, hq1, hq3, PR.bind_ok]), (ghO4), (MTL.snoc hMT hmt3), (by simp [hll]), (q_hO4_bx), (by have := hle; have := PR.Le.of (text_le en ([u1]) us) hq1; have := PR.Sh.of (hxs us1) hq3; omega)⟩, by first | omega | (dsimp only; omega)⟩
 have hc1' := of_decide_eq_false hc1
 refine .exit (.thenE (.thenE (.inE (.doneN (ResV.nil) ?_))))
 exact RetP.ok (by rw [hs, List.drop_eq_nil_of_le (by omega), kidsP]) hR hus hb0 ⟨rfl, hbp, vo, es, hbx, hO, gOo, (Xs.weaken (M' := (Value.ownBlock vo :: some b0 :: some bx :: M)) hX (SubM.cons (.head _) (SubM.cons (.tail _ (.head _)) (SubM.cons (.tail _ (.tail _ (.head _))) (fun o h => (.tail _ (.tail _ (.tail _ h)))))))), hMT, hnx⟩
theorem expr_step {wB : World} {b0 : Nat} {en dp : Int} (ts : List Tk) (v : Value) (ex : List Tk → PR ST) (w : World) (hB0 : Below wB.heap.size wB w) (hSge : ∀ k, k = b0 → wB.heap.size ≤ k) (hts : RowsAt wB v 4 (ts.map Tk.cs)) (hb0 : w.heap[b0]? = some (.cells #[v, .int .i64 en, .int .i64 dp] 102)) (hbig : ts.length ≤ 100000000) (hxs : ∀ ts, (ex ts).Sh ts.length) (hd0 : 0 ≤ dp ∧ dp ≤ 201) (hex : dp ≤ 200 → ExC en (dp + 1) ex) (hg : (exprS en dp ex ts).isOk = true) :
  Calls Tryz.prog 62 ([.pointer (some ⟨b0, 0, none⟩)] : List Value).toArray w fun e w' => RetP (fun k => k = b0) wB b0 en dp (okT w) (exprS en dp ex ts) w e w' := by
 have htl := hts.lenL
 have hR := Fr.refl (fun k => k = b0) w
 have hB := hB0
 refine At.enterD (Q := postD1 _ _ 85 _) (N := 165) Tryz.func62 rfl rfl (by simp) [(0, .pointer (some ⟨b0, 0, none⟩))] (by simp) (postD1.to en85) ?_
 refine .seq (.region ?_)
 refine At.box rfl rfl (fun b1 w1 F1 => ?_)
 have n_b0_b1 := F1.ne' hb0
 replace hb0 := F1.old hb0
 have hb1 : w1.heap[b1]? = some (.cells #[.pointer (some ⟨b0, 0, none⟩)] 98) := F1.new
 replace hR := hR.freshF F1
 refine At.alloc ze31 rfl (fun b2 w2 F2 => ?_)
 have n_b0_b2 := F2.ne' hb0
 have n_b1_b2 := F2.ne' hb1
 have gb2 := F2.gq hR.size
 replace hb0 := F2.old hb0
 replace hb1 := F2.old hb1
 have hb2 : w2.heap[b2]? = some (.cells #[zI, zI, zS, zS, zI, zN, zN, zI, zS, zI, zN, zN, zI, zN, zI, zI, zS, zI, zN, zN, zI] 31) := F2.new
 replace hR := hR.freshF F2
 replace hB := Fr.below hR hB0 hB0.size hSge
 refine .ops0 (.thenN (.seq (.region (.load rfl (Ld.ownCell ag98 hb1 rfl) rfl (.nilCheck rfl rfl (.fieldAddr rfl fo102_0 rfl ?_))))))
 refine At.call en76 rfl rfl (next_any ts v _ ((hts).keep hB) hb0) (fun e w3 hR' => ?_)
 obtain ⟨rfl, hbl1⟩ := hR'
 refine ⟨_, rfl, ?_⟩
 replace hb0 := Below.old hbl1 hb0
 replace hb1 := Below.old hbl1 hb1
 replace hb2 := Below.old hbl1 hb2
 replace hR := hR.callF hbl1
 refine .fieldC rfl ft141_3 ag3 (((tk_ok (nx en ts))).c3) rfl (.build (C := #[zI, .int .i64 ((nx en ts).a), zS, zS, zI, zN, zN, zI, zS, zI, zN, zN, zI, zN, zI, zI, zS, zI, zN, zN, zI]) sd31 ze31 rfl (Bld.cons fo31_1 rfl (lB rfl) (Bld.nil _)) rfl ?_)
 refine At.alloc ze31 rfl (fun b3 w4 F3 => ?_)
 have n_b0_b3 := F3.ne' hb0
 have n_b1_b3 := F3.ne' hb1
 have n_b2_b3 := F3.ne' hb2
 have gb3 := F3.gq hR.size
 replace hb0 := F3.old hb0
 replace hb1 := F3.old hb1
 replace hb2 := F3.old hb2
 have hb3 : w4.heap[b3]? = some (.cells #[zI, zI, zS, zS, zI, zN, zN, zI, zS, zI, zN, zN, zI, zN, zI, zI, zS, zI, zN, zN, zI] 31) := F3.new
 replace hR := hR.freshF F3
 refine At.storeAll rfl rfl hb3 sz31 rfl (by first | (simp [Value.oneCell', ((SlOk.nil)).one]; done) | (simp only [List.all_toArray, List.all_cons, List.all_nil, ((SlOk.nil)).one, Bool.and_true, Bool.true_and] <;> rfl)) (fun w5 S1 => ?_)
 replace hb0 := S1.other hb0 n_b0_b3
 replace hb1 := S1.other hb1 n_b1_b3
 replace hb2 := S1.other hb2 n_b2_b3
 replace hb3 : w5.heap[b3]? = some (.cells #[zI, .int .i64 ((nx en ts).a), zS, zS, zI, zN, zN, zI, zS, zI, zN, zN, zI, zN, zI, zI, zS, zI, zN, zN, zI] 31) := S1.new
 replace hR := hR.setF S1 (.inr gb3)
 refine .ops0 (.thenN (.seq (.seq (.region (.load rfl (Ld.ownCell ag98 hb1 rfl) rfl (.nilCheck rfl rfl (.fieldAddr rfl fo102_1 rfl (.load rfl (Ld.ownCell ag3 hb0 rfl) rfl (.gtr rfl rfl rfl (.ops0 (.thenN ?_)))))))))))
 refine At.cond (b := decide (200 < dp)) rfl (fun hc1 => ?_) (fun hc1 => ?_)
 ·skip
  have hc1' := of_decide_eq_true hc1
  exact (PR.no hg (by simp only [exprS, exB, SB, hc1] <;> rfl)).elim
 have hc1' := of_decide_eq_false hc1
 have hdp : dp ≤ 200 := by omega
 refine .skip (.thenN (.seq (.region (.load rfl (Ld.ownCell ag98 hb1 rfl) rfl (.nilCheck rfl rfl (.fieldAddr rfl fo102_1 rfl (.load rfl (Ld.ownCell ag3 hb0 rfl) rfl (.addI rfl rfl rfl (by first | omega | (simp; done) | (simp; omega)) (.nilCheck rfl rfl (.fieldAddr rfl fo102_1 rfl ?_))))))))))
 refine At.store1 rfl rfl hb0 sz3 (by simp) rfl (fun w6 S2 => ?_)
 replace hb1 := S2.other hb1 n_b0_b1.symm
 replace hb2 := S2.other hb2 n_b0_b2.symm
 replace hb3 := S2.other hb3 n_b0_b3.symm
 replace hb0 : w6.heap[b0]? = some (.cells #[v, .int .i64 en, .int .i64 (dp + 1)] 102) := S2.new
 replace hR := hR.setF S2 (.inl rfl)
 refine .ops0 (.thenN (.seq (.region (.makeFunc rfl rfl (.deferV rfl (.ops0 (.thenN (.seq (.region (.makeFunc rfl rfl (.assign rfl rfl (.ops0 (.thenN (.seq (.block (.seq (.region (.load rfl (Ld.ownCell ag98 hb1 rfl) rfl (.nilCheck rfl rfl (.fieldAddr rfl fo102_0 rfl ?_))))))))))))))))))))
 refine At.buildSlice (xs := [.const (.string (⟨#[102, 117, 110]⟩ : ByteArray))]) rfl rfl el25 sz9 ze9 (by intro v hv; simp only [List.mem_cons, List.not_mem_nil, or_false] at hv; rcases hv with rfl <;> first | rfl | simp [Value.cells]) rfl (by decide) rfl (fun b4 w7 F4 => ?_)
 have n_b0_b4 := F4.ne' hb0
 have n_b3_b4 := F4.ne' hb3
 replace hb0 := F4.old hb0
 replace hb1 := F4.old hb1
 replace hb2 := F4.old hb2
 replace hb3 := F4.old hb3
 have hb4 : w7.heap[b4]? = some (.cells #[.string (⟨#[102, 117, 110]⟩ : ByteArray)] 9) := F4.new
 replace hR := hR.freshF F4
 replace hB := Fr.below hR hB0 hB0.size hSge
 refine At.call en59 rfl rfl (is_any ts v (.slice (some ⟨b4, 0, none⟩) 1 1) ([(⟨#[102, 117, 110]⟩ : ByteArray)]) _ ((hts).keep hB) hb0 ((StrsAt.own (ss := [(⟨#[102, 117, 110]⟩ : ByteArray)]) hb4 rfl (by decide) : StrsAt _ (.slice (some ⟨b4, 0, none⟩) 1 1) [(⟨#[102, 117, 110]⟩ : ByteArray)]))) (fun e w8 hR' => ?_)
 obtain ⟨rfl, hbl2⟩ := hR'
 refine ⟨_, rfl, ?_⟩
 replace hb0 := Below.old hbl2 hb0
 replace hb1 := Below.old hbl2 hb1
 replace hb2 := Below.old hbl2 hb2
 replace hb3 := Below.old hbl2 hb3
 replace hb4 := Below.old hbl2 hb4
 replace hR := hR.callF hbl2
 refine .assign rfl rfl (.ops0 (.thenN ?_))
 refine At.cond (b := (isK en ts ([(⟨#[102, 117, 110]⟩ : ByteArray)]))) rfl (fun hc2 => ?_) (fun hc2 => ?_)
 ·skip
  exact (PR.no hg (by simp only [exprS, exB, SB, hc1, hc2] <;> rfl)).elim
 refine .seq (.region (.load rfl (Ld.ownCell ag98 hb1 rfl) rfl (.nilCheck rfl rfl (.fieldAddr rfl fo102_0 rfl ?_))))
 refine At.buildSlice (xs := [.const (.string (⟨#[108, 101, 116]⟩ : ByteArray))]) rfl rfl el25 sz9 ze9 (by intro v hv; simp only [List.mem_cons, List.not_mem_nil, or_false] at hv; rcases hv with rfl <;> first | rfl | simp [Value.cells]) rfl (by decide) rfl (fun b5 w9 F5 => ?_)
 have n_b0_b5 := F5.ne' hb0
 have n_b3_b5 := F5.ne' hb3
 replace hb0 := F5.old hb0
 replace hb1 := F5.old hb1
 replace hb2 := F5.old hb2
 replace hb3 := F5.old hb3
 replace hb4 := F5.old hb4
 have hb5 : w9.heap[b5]? = some (.cells #[.string (⟨#[108, 101, 116]⟩ : ByteArray)] 9) := F5.new
 replace hR := hR.freshF F5
 replace hB := Fr.below hR hB0 hB0.size hSge
 refine At.call en59 rfl rfl (is_any ts v (.slice (some ⟨b5, 0, none⟩) 1 1) ([(⟨#[108, 101, 116]⟩ : ByteArray)]) _ ((hts).keep hB) hb0 ((StrsAt.own (ss := [(⟨#[108, 101, 116]⟩ : ByteArray)]) hb5 rfl (by decide) : StrsAt _ (.slice (some ⟨b5, 0, none⟩) 1 1) [(⟨#[108, 101, 116]⟩ : ByteArray)]))) (fun e w10 hR' => ?_)
 obtain ⟨rfl, hbl3⟩ := hR'
 refine ⟨_, rfl, ?_⟩
 replace hb0 := Below.old hbl3 hb0
 replace hb1 := Below.old hbl3 hb1
 replace hb2 := Below.old hbl3 hb2
 replace hb3 := Below.old hbl3 hb3
 replace hb4 := Below.old hbl3 hb4
 replace hb5 := Below.old hbl3 hb5
 replace hR := hR.callF hbl3
 replace hB := Fr.below hR hB0 hB0.size hSge
 refine .assign rfl rfl (.ops0 (.thenN ?_))
 refine At.cond (b := (isK en ts ([(⟨#[108, 101, 116]⟩ : ByteArray)]))) rfl (fun hc3 => ?_) (fun hc3 => ?_)
 ·skip
  refine .seq (.region (.load rfl (Ld.ownCell ag98 hb1 rfl) rfl (.nilCheck rfl rfl (.fieldAddr rfl fo102_0 rfl ?_))))
  refine At.call en87 rfl rfl (ptake_any ts v _ hB hSge hts hb0 (is_len hc3)) (fun e wp1 hR' => ?_)
  obtain ⟨vr1, rfl, hts1, hbo1, hF1⟩ := hR'
  refine ⟨_, rfl, ?_⟩
  replace hb1 := Fr.oldB hF1 hb1 (n_b0_b1.symm)
  replace hb2 := Fr.oldB hF1 hb2 (n_b0_b2.symm)
  replace hb3 := Fr.oldB hF1 hb3 (n_b0_b3.symm)
  replace hb4 := Fr.oldB hF1 hb4 (n_b0_b4.symm)
  replace hb5 := Fr.oldB hF1 hb5 (n_b0_b5.symm)
  replace hb0 := hbo1
  replace hR := Fr.then hR hF1 (fun k hk => .inl hk)
  replace hB := Fr.below hR hB0 hB0.size hSge
  refine .ops0 (.thenN (.seq (.drawG (n := 8) mixed (by kernel_rfl) rfl (PanicOk.then (PanicOk.block (PanicOk.then PanicOk.bodyD1))) ?_)))
  have hR := Fr.drewF hR
  have hB := Below.drewB hB
  have hb0 : _ := (show wp1.drew.heap[b0]? = _ from hb0)
  have hb1 : _ := (show wp1.drew.heap[b1]? = _ from hb1)
  have hb2 : _ := (show wp1.drew.heap[b2]? = _ from hb2)
  have hb3 : _ := (show wp1.drew.heap[b3]? = _ from hb3)
  have hb4 : _ := (show wp1.drew.heap[b4]? = _ from hb4)
  have hb5 : _ := (show wp1.drew.heap[b5]? = _ from hb5)
  refine .wpcS (i := 0) (d := 61) (.pointer (some ⟨b0, 0, none⟩)) (by kernel_rfl) rfl rfl rfl (fun Lx => .load rfl (Ld.ownCell ag98 hb1 rfl) rfl (.ops0 fun a ha => ⟨ha, rfl⟩)) ?_
  refine .wpcS (i := 4) (d := 65) (.pointer (some ⟨b3, 0 + 0, none⟩)) (by kernel_rfl) rfl rfl rfl (fun Lx => .fieldAddr rfl fo31_0 rfl (.ops0 fun a ha => ⟨ha, rfl⟩)) ?_
  refine At.wpcE [1] (by kernel_rfl) (by kernel_rfl) (.cons [4] rfl (by kernel_rfl) ?_ .nil)
  refine At.call en88 rfl rfl (names_any ts.tail vr1 1 _ hB hSge hts1 hb0 (by decide) (PR.sub hg (by (try simp only [exprS, exB, SB, hc1, hc2, hc3]); repeat constructor))) (fun e wp2 hR' => ?_)
  obtain ⟨x2, us2, val2, vr2, hq2, rfl, hF2, hts2, hbo2, ho2⟩ := hR'
  refine ⟨_, rfl, ?_⟩
  replace hb1 := Fr.oldB hF2 hb1 (n_b0_b1.symm)
  replace hb2 := Fr.oldB hF2 hb2 (n_b0_b2.symm)
  replace hb3 := Fr.oldB hF2 hb3 (n_b0_b3.symm)
  replace hb4 := Fr.oldB hF2 hb4 (n_b0_b4.symm)
  replace hb5 := Fr.oldB hF2 hb5 (n_b0_b5.symm)
  replace hb0 := hbo2
  have hsz2 := hR.size
  replace hR := Fr.then hR hF2 (fun k hk => .inl hk)
  have hnl2 := names_len _ _ _ hq2
  simp only [List.length_nil] at hnl2
  obtain ⟨hO_2, gO_2⟩ := ho2
  replace gO_2 : ∀ g, Value.ownBlock val2 = some g → w.heap.size ≤ g := fun g hg => Nat.le_trans hsz2 (gO_2 g hg)
  refine .ops0 ?_
  refine At.wpcN (.cons rfl rfl rfl rfl (fun Lx => ?_) .nil) ?_
  ·skip
   exact .fieldAddr rfl fo31_0 rfl (.ops0 fun a ha => ⟨ha, rfl⟩)
  obtain ⟨u1, hu1⟩ := some_of_lt (l := x2) (i := 0) (by first | omega | (simp; done) | (simp; omega))
  refine .wpcS (i := 2) (d := 63) (.pointer (some ⟨vBlock val2, vOff val2 + 0 * 1, none⟩)) (by kernel_rfl) rfl rfl rfl (fun Lx => .indexAddr (i := 0) rfl rfl (hO_2.strs).ok (lt_of_some hu1) el25 sz9 rfl (.ops0 fun a ha => ⟨ha, rfl⟩)) ?_
  refine .wpcS (i := 3) (d := 64) (.string u1) (by kernel_rfl) rfl rfl rfl (fun Lx => .load rfl (Ld.cell ag9 (cell_keep ((hO_2.strs).get hu1) (Below.refl _ _))) rfl (.ops0 fun a ha => ⟨ha, rfl⟩)) ?_
  refine At.wpcE [5] (by kernel_rfl) (by kernel_rfl) (.cons [2, 3] rfl (by kernel_rfl) ?_ .nil)
  refine At.store1 rfl rfl hb3 sz3 (by simp) rfl (fun w11 S3 => ?_)
  replace hb0 := S3.other hb0 n_b0_b3
  replace hb1 := S3.other hb1 n_b1_b3
  replace hb2 := S3.other hb2 n_b2_b3
  replace hb4 := S3.other hb4 n_b3_b4.symm
  replace hb5 := S3.other hb5 n_b3_b5.symm
  replace hO_2 := hO_2.set S3 (hO_2.neT hb3 rfl)
  replace hb3 : w11.heap[b3]? = some (.cells #[.int .i64 7, .int .i64 ((nx en ts).a), zS, zS, zI, zN, zN, zI, zS, zI, zN, zN, zI, zN, zI, zI, zS, zI, zN, zN, zI] 31) := S3.new
  replace hR := hR.setF S3 (.inr gb3)
  refine .ops0 ?_
  refine At.wpcN (.cons rfl rfl rfl rfl (fun Lx => ?_) (.cons rfl rfl rfl rfl (fun Lx => ?_) .nil)) ?_
  ·skip
   exact .indexAddr (i := 0) rfl rfl (hO_2.strs).ok (lt_of_some hu1) el25 sz9 rfl (.ops0 fun a ha => ⟨ha, rfl⟩)
  ·skip
   exact .load rfl (Ld.cell ag9 (cell_keep ((hO_2.strs).get hu1) (Below.refl _ _))) rfl (.ops0 fun a ha => ⟨ha, rfl⟩)
  refine .wpcS (i := 6) (d := 66) (.pointer (some ⟨b3, 0 + 2, none⟩)) (by kernel_rfl) rfl rfl rfl (fun Lx => .fieldAddr rfl fo31_2 rfl (.ops0 fun a ha => ⟨ha, rfl⟩)) ?_
  refine At.wpcE [7] (by kernel_rfl) (by kernel_rfl) (.cons [] rfl (by kernel_rfl) ?_ .nil)
  refine At.store1 rfl rfl hb3 sz9 (by simp) rfl (fun w12 S4 => ?_)
  replace hb0 := S4.other hb0 n_b0_b3
  replace hb1 := S4.other hb1 n_b1_b3
  replace hb2 := S4.other hb2 n_b2_b3
  replace hb4 := S4.other hb4 n_b3_b4.symm
  replace hb5 := S4.other hb5 n_b3_b5.symm
  replace hO_2 := hO_2.set S4 (hO_2.neT hb3 rfl)
  replace hb3 : w12.heap[b3]? = some (.cells #[.int .i64 7, .int .i64 ((nx en ts).a), .string u1, zS, zI, zN, zN, zI, zS, zI, zN, zN, zI, zN, zI, zI, zS, zI, zN, zN, zI] 31) := S4.new
  replace hR := hR.setF S4 (.inr gb3)
  refine .ops0 (.wpcN .nil (.wpcZ (.thenN (.region (.move rfl rfl ?_)))))
  refine At.buildSlice (xs := [.const (.string (⟨#[61]⟩ : ByteArray)), .const (.string (⟨#[105, 110]⟩ : ByteArray))]) rfl rfl el25 sz9 ze9 (by intro v hv; simp only [List.mem_cons, List.not_mem_nil, or_false] at hv; rcases hv with rfl | rfl <;> first | rfl | simp [Value.cells]) rfl (by decide) rfl (fun b6 w13 F6 => ?_)
  have q_hO_2_b6 : some b6 ≠ Value.ownBlock val2 := Own.neFresh hO_2 F6
  replace hb0 := F6.old hb0
  replace hb1 := F6.old hb1
  replace hb2 := F6.old hb2
  replace hb3 := F6.old hb3
  replace hb4 := F6.old hb4
  replace hb5 := F6.old hb5
  replace hO_2 := hO_2.fresh F6
  have hb6 : w13.heap[b6]? = some (.cells #[.string (⟨#[61]⟩ : ByteArray), .string (⟨#[105, 110]⟩ : ByteArray)] 9) := F6.new
  replace hR := hR.freshF F6
  replace hB := Fr.below hR hB0 hB0.size hSge
  have hml3 : MLt w13.heap.size [some b0, some b1, some b2, some b3, some b4, some b5, some b6, Value.ownBlock val2] := (MLt.blk hb0 (MLt.blk hb1 (MLt.blk hb2 (MLt.blk hb3 (MLt.blk hb4 (MLt.blk hb5 (MLt.blk hb6 (MLt.own hO_2 (MLt.nil _)))))))))
  have hsz3 := hR.size
  have hlt3_b2 := (Array.getElem?_eq_some_iff.1 hb2).1
  refine At.callVF rfl en86 rfl rfl (kids_any us2 vr2 [some b0, some b1, some b2, some b3, some b4, some b5, some b6, Value.ownBlock val2] b3 b1 7 ((nx en ts).a) u1 (⟨#[]⟩ : ByteArray) 0 (.slice (some ⟨b6, 0, none⟩) 2 2) ([(⟨#[61]⟩ : ByteArray), (⟨#[105, 110]⟩ : ByteArray)]) ex _ hB (fun k hk => hk.elim (fun e => hSge k e) (fun e => e ▸ Nat.le_trans hB0.size gb3)) hts2 hb0 hb3 hb1 (OwnS.made (ss := ([(⟨#[61]⟩ : ByteArray), (⟨#[105, 110]⟩ : ByteArray)])) hb6 rfl (by decide)) hml3 (by decide) (by have hz := hbig; have := tail_len (is_len hc3); have := PR.Le.of (names_le en 1 [] ts.tail) hq2; omega) hxs (hex hdp) (PR.sub hg (by (try simp only [exprS, exB, SB, hc1, hc2, hc3, hq2, getD_ofB hu1]); repeat constructor))) (fun e wp3 hR' => ?_)
  obtain ⟨x3, us3, val, vr3, hq3, rfl, hF3, hts3, hbo3, ho3⟩ := hR'
  refine ⟨_, rfl, ?_⟩
  obtain ⟨rfl, hbp3, vg3, es3, hbx3, hO_3, gO_3, hX_3, hT_3, hnx3⟩ := ho3
  have q_hO_3_b2 : some b2 ≠ Value.ownBlock vg3 := fun e => by have h1 := gO_3 _ e.symm; omega
  replace gO_3 : ∀ g, Value.ownBlock vg3 = some g → w.heap.size ≤ g := fun g hg => Nat.le_trans hsz3 (gO_3 g hg)
  replace hb1 := hF3.old _ _ (fun hk => hk.elim (fun e => n_b0_b1 e.symm) (fun e => n_b1_b3.symm e.symm)) hb1
  replace hb2 := hF3.old _ _ (fun hk => hk.elim (fun e => n_b0_b2 e.symm) (fun e => n_b2_b3.symm e.symm)) hb2
  replace hO_2 := Own.frS hO_2 hF3 (fun g hg hk => hk.elim (fun e => by subst e; exact Own.neT hO_2 hb0 rfl hg.symm) (fun e => by subst e; exact Own.neT hO_2 hb3 rfl hg.symm))
  replace hb0 := hbo3
  have hb3 := hbx3
  replace hR := Fr.then hR hF3 (fun k hk => hk.elim .inl (fun e => .inr (e ▸ gb3)))
  replace hb3 : wp3.heap[b3]? = some (.cells #[.int .i64 7, .int .i64 ((nx en ts).a), .string u1, zS, zI, vg3, zN, zI, zS, zI, zN, zN, zI, zN, zI, zI, zS, zI, zN, zN, zI] 31) := hb3
  refine .ops0 (.inN (.thenN (.seq (.region (.load rfl (Ld.own (C := #[.int .i64 7, .int .i64 ((nx en ts).a), .string u1, zS, zI, vg3, zN, zI, zS, zI, zN, zN, zI, zN, zI, zI, zS, zI, zN, zN, zI]) ag31 sz31 hb3) rfl ?_)))))
  refine At.storeAll rfl rfl hb2 sz31 rfl (by first | (simp [Value.oneCell', (hO_3).one, ((SlOk.nil)).one]; done) | (simp only [List.all_toArray, List.all_cons, List.all_nil, (hO_3).one, ((SlOk.nil)).one, Bool.and_true, Bool.true_and] <;> rfl)) (fun w14 S5 => ?_)
  replace hb0 := S5.other hb0 n_b0_b2
  replace hb1 := S5.other hb1 n_b1_b2
  replace hO_2 := hO_2.set S5 (hO_2.neT hb2 rfl)
  replace hO_3 := hO_3.set S5 q_hO_3_b2
  replace hX_3 := Xs.set hX_3 S5 (by simp)
  replace hb2 : w14.heap[b2]? = some (.cells #[.int .i64 7, .int .i64 ((nx en ts).a), .string u1, zS, zI, vg3, zN, zI, zS, zI, zN, zN, zI, zN, zI, zI, zS, zI, zN, zN, zI] 31) := S5.new
  replace hR := hR.setF S5 (.inr gb2)
  refine .ops0 (.thenN (.retc ?_))
  refine At.doneDR en85 (fun u => expr1_any _ u _ hb0 hb1) (fun w9 hK => ?_)
  obtain ⟨hb0n, hF9⟩ := hK
  replace hb2 := Fr.oldB hF9 hb2 (n_b0_b2.symm)
  replace hO_2 := OwnS.frB hO_2 hF9 hb0 rfl
  replace hO_3 := OwnR.frB hO_3 hF9 hb0 rfl
  replace hX_3 := Xs.frS hX_3 hF9 (by rintro k rfl; simp)
  rw [wrap_sub (by omega)] at hb0n
  replace hb0 := hb0n
  replace hR := Fr.then hR hF9 (fun k hk => .inl hk)
  refine ⟨_, ResV.cell rfl (Ld.own (C := #[.int .i64 7, .int .i64 ((nx en ts).a), .string u1, zS, zI, vg3, zN, zI, zS, zI, zN, zN, zI, zN, zI, zI, zS, zI, zN, zN, zI]) ag31 sz31 hb2) ResV.nil, ?_⟩
  exact RetP.ok (x := (ST.mk 7 ((nx en ts).a) u1 (⟨#[]⟩ : ByteArray) 0 x3 [])) (by simp only [exprS, exB, SB, hc1, hc2, hc3, hq2, hq3, getD_ofB hu1] <;> rfl) hR hts3 hb0 ⟨(tmA 7 ((nx en ts).a) u1 (⟨#[]⟩ : ByteArray) 0 vg3 es3 zN []), rfl, (tmA_ok (OwnR.rows hO_3 (fun u hu => (((Xs.ok hX_3)) u hu).size)) (Xs.ok (Xs.weaken (M' := []) hX_3 SubM.nil)) (RowsAt.nil _ 23) (Xs.ok (Xs.nil kAm [] _))), (MT.made (k := 7) (a := (nx en ts).a) (nm := u1) (pm := (⟨#[]⟩ : ByteArray)) (n := 0) (MTL.mono hT_3 hsz3) (MAL.nil w) (fun hn => OwnR.vbGe hO_3 gO_3 hn) (fun h => absurd rfl h))⟩
 refine .seq (.region (.load rfl (Ld.ownCell ag98 hb1 rfl) rfl (.nilCheck rfl rfl (.fieldAddr rfl fo102_0 rfl ?_))))
 refine At.buildSlice (xs := [.const (.string (⟨#[114, 101, 99]⟩ : ByteArray))]) rfl rfl el25 sz9 ze9 (by intro v hv; simp only [List.mem_cons, List.not_mem_nil, or_false] at hv; rcases hv with rfl <;> first | rfl | simp [Value.cells]) rfl (by decide) rfl (fun b7 w15 F7 => ?_)
 have n_b0_b7 := F7.ne' hb0
 have n_b3_b7 := F7.ne' hb3
 replace hb0 := F7.old hb0
 replace hb1 := F7.old hb1
 replace hb2 := F7.old hb2
 replace hb3 := F7.old hb3
 replace hb4 := F7.old hb4
 replace hb5 := F7.old hb5
 have hb7 : w15.heap[b7]? = some (.cells #[.string (⟨#[114, 101, 99]⟩ : ByteArray)] 9) := F7.new
 replace hR := hR.freshF F7
 replace hB := Fr.below hR hB0 hB0.size hSge
 refine At.call en59 rfl rfl (is_any ts v (.slice (some ⟨b7, 0, none⟩) 1 1) ([(⟨#[114, 101, 99]⟩ : ByteArray)]) _ ((hts).keep hB) hb0 ((StrsAt.own (ss := [(⟨#[114, 101, 99]⟩ : ByteArray)]) hb7 rfl (by decide) : StrsAt _ (.slice (some ⟨b7, 0, none⟩) 1 1) [(⟨#[114, 101, 99]⟩ : ByteArray)]))) (fun e w16 hR' => ?_)
 obtain ⟨rfl, hbl4⟩ := hR'
 refine ⟨_, rfl, ?_⟩
 replace hb0 := Below.old hbl4 hb0
 replace hb1 := Below.old hbl4 hb1
 replace hb2 := Below.old hbl4 hb2
 replace hb3 := Below.old hbl4 hb3
 replace hb4 := Below.old hbl4 hb4
 replace hb5 := Below.old hbl4 hb5
 replace hb7 := Below.old hbl4 hb7
 replace hR := hR.callF hbl4
 refine .assign rfl rfl (.ops0 (.thenN ?_))
 refine At.cond (b := (isK en ts ([(⟨#[114, 101, 99]⟩ : ByteArray)]))) rfl (fun hc4 => ?_) (fun hc4 => ?_)
 ·skip
  exact (PR.no hg (by simp only [exprS, exB, SB, hc1, hc2, hc3, hc4] <;> rfl)).elim
 refine .seq (.region (.load rfl (Ld.ownCell ag98 hb1 rfl) rfl (.nilCheck rfl rfl (.fieldAddr rfl fo102_0 rfl ?_))))
 refine At.buildSlice (xs := [.const (.string (⟨#[105, 102]⟩ : ByteArray))]) rfl rfl el25 sz9 ze9 (by intro v hv; simp only [List.mem_cons, List.not_mem_nil, or_false] at hv; rcases hv with rfl <;> first | rfl | simp [Value.cells]) rfl (by decide) rfl (fun b8 w17 F8 => ?_)
 have n_b0_b8 := F8.ne' hb0
 have n_b3_b8 := F8.ne' hb3
 replace hb0 := F8.old hb0
 replace hb1 := F8.old hb1
 replace hb2 := F8.old hb2
 replace hb3 := F8.old hb3
 replace hb4 := F8.old hb4
 replace hb5 := F8.old hb5
 replace hb7 := F8.old hb7
 have hb8 : w17.heap[b8]? = some (.cells #[.string (⟨#[105, 102]⟩ : ByteArray)] 9) := F8.new
 replace hR := hR.freshF F8
 replace hB := Fr.below hR hB0 hB0.size hSge
 refine At.call en59 rfl rfl (is_any ts v (.slice (some ⟨b8, 0, none⟩) 1 1) ([(⟨#[105, 102]⟩ : ByteArray)]) _ ((hts).keep hB) hb0 ((StrsAt.own (ss := [(⟨#[105, 102]⟩ : ByteArray)]) hb8 rfl (by decide) : StrsAt _ (.slice (some ⟨b8, 0, none⟩) 1 1) [(⟨#[105, 102]⟩ : ByteArray)]))) (fun e w18 hR' => ?_)
 obtain ⟨rfl, hbl5⟩ := hR'
 refine ⟨_, rfl, ?_⟩
 replace hb0 := Below.old hbl5 hb0
 replace hb1 := Below.old hbl5 hb1
 replace hb2 := Below.old hbl5 hb2
 replace hb3 := Below.old hbl5 hb3
 replace hb4 := Below.old hbl5 hb4
 replace hb5 := Below.old hbl5 hb5
 replace hb7 := Below.old hbl5 hb7
 replace hb8 := Below.old hbl5 hb8
 replace hR := hR.callF hbl5
 refine .assign rfl rfl (.ops0 (.thenN ?_))
 refine At.cond (b := (isK en ts ([(⟨#[105, 102]⟩ : ByteArray)]))) rfl (fun hc5 => ?_) (fun hc5 => ?_)
 ·skip
  exact (PR.no hg (by simp only [exprS, exB, SB, hc1, hc2, hc3, hc4, hc5] <;> rfl)).elim
 refine .seq (.region (.load rfl (Ld.ownCell ag98 hb1 rfl) rfl (.nilCheck rfl rfl (.fieldAddr rfl fo102_0 rfl ?_))))
 refine At.buildSlice (xs := [.const (.string (⟨#[109, 97, 116, 99, 104]⟩ : ByteArray))]) rfl rfl el25 sz9 ze9 (by intro v hv; simp only [List.mem_cons, List.not_mem_nil, or_false] at hv; rcases hv with rfl <;> first | rfl | simp [Value.cells]) rfl (by decide) rfl (fun b9 w19 F9 => ?_)
 have n_b0_b9 := F9.ne' hb0
 have n_b3_b9 := F9.ne' hb3
 replace hb0 := F9.old hb0
 replace hb1 := F9.old hb1
 replace hb2 := F9.old hb2
 replace hb3 := F9.old hb3
 replace hb4 := F9.old hb4
 replace hb5 := F9.old hb5
 replace hb7 := F9.old hb7
 replace hb8 := F9.old hb8
 have hb9 : w19.heap[b9]? = some (.cells #[.string (⟨#[109, 97, 116, 99, 104]⟩ : ByteArray)] 9) := F9.new
 replace hR := hR.freshF F9
 replace hB := Fr.below hR hB0 hB0.size hSge
 refine At.call en59 rfl rfl (is_any ts v (.slice (some ⟨b9, 0, none⟩) 1 1) ([(⟨#[109, 97, 116, 99, 104]⟩ : ByteArray)]) _ ((hts).keep hB) hb0 ((StrsAt.own (ss := [(⟨#[109, 97, 116, 99, 104]⟩ : ByteArray)]) hb9 rfl (by decide) : StrsAt _ (.slice (some ⟨b9, 0, none⟩) 1 1) [(⟨#[109, 97, 116, 99, 104]⟩ : ByteArray)]))) (fun e w20 hR' => ?_)
 obtain ⟨rfl, hbl6⟩ := hR'
 refine ⟨_, rfl, ?_⟩
 replace hb0 := Below.old hbl6 hb0
 replace hb1 := Below.old hbl6 hb1
 replace hb2 := Below.old hbl6 hb2
 replace hb3 := Below.old hbl6 hb3
 replace hb4 := Below.old hbl6 hb4
 replace hb5 := Below.old hbl6 hb5
 replace hb7 := Below.old hbl6 hb7
 replace hb8 := Below.old hbl6 hb8
 replace hb9 := Below.old hbl6 hb9
 replace hR := hR.callF hbl6
 refine .assign rfl rfl (.ops0 (.thenN ?_))
 refine At.cond (b := (isK en ts ([(⟨#[109, 97, 116, 99, 104]⟩ : ByteArray)]))) rfl (fun hc6 => ?_) (fun hc6 => ?_)
 ·skip
  exact (PR.no hg (by simp only [exprS, exB, SB, hc1, hc2, hc3, hc4, hc5, hc6] <;> rfl)).elim
 refine .seq (.region (.load rfl (Ld.ownCell ag98 hb1 rfl) rfl (.nilCheck rfl rfl (.fieldAddr rfl fo102_0 rfl ?_))))
 refine At.buildSlice (xs := [.const (.string (⟨#[104, 97, 110, 100, 108, 101]⟩ : ByteArray))]) rfl rfl el25 sz9 ze9 (by intro v hv; simp only [List.mem_cons, List.not_mem_nil, or_false] at hv; rcases hv with rfl <;> first | rfl | simp [Value.cells]) rfl (by decide) rfl (fun b10 w21 F10 => ?_)
 have n_b0_b10 := F10.ne' hb0
 have n_b3_b10 := F10.ne' hb3
 replace hb0 := F10.old hb0
 replace hb1 := F10.old hb1
 replace hb2 := F10.old hb2
 replace hb3 := F10.old hb3
 replace hb4 := F10.old hb4
 replace hb5 := F10.old hb5
 replace hb7 := F10.old hb7
 replace hb8 := F10.old hb8
 replace hb9 := F10.old hb9
 have hb10 : w21.heap[b10]? = some (.cells #[.string (⟨#[104, 97, 110, 100, 108, 101]⟩ : ByteArray)] 9) := F10.new
 replace hR := hR.freshF F10
 replace hB := Fr.below hR hB0 hB0.size hSge
 refine At.call en59 rfl rfl (is_any ts v (.slice (some ⟨b10, 0, none⟩) 1 1) ([(⟨#[104, 97, 110, 100, 108, 101]⟩ : ByteArray)]) _ ((hts).keep hB) hb0 ((StrsAt.own (ss := [(⟨#[104, 97, 110, 100, 108, 101]⟩ : ByteArray)]) hb10 rfl (by decide) : StrsAt _ (.slice (some ⟨b10, 0, none⟩) 1 1) [(⟨#[104, 97, 110, 100, 108, 101]⟩ : ByteArray)]))) (fun e w22 hR' => ?_)
 obtain ⟨rfl, hbl7⟩ := hR'
 refine ⟨_, rfl, ?_⟩
 replace hb0 := Below.old hbl7 hb0
 replace hb1 := Below.old hbl7 hb1
 replace hb2 := Below.old hbl7 hb2
 replace hb3 := Below.old hbl7 hb3
 replace hb4 := Below.old hbl7 hb4
 replace hb5 := Below.old hbl7 hb5
 replace hb7 := Below.old hbl7 hb7
 replace hb8 := Below.old hbl7 hb8
 replace hb9 := Below.old hbl7 hb9
 replace hb10 := Below.old hbl7 hb10
 replace hR := hR.callF hbl7
 replace hB := Fr.below hR hB0 hB0.size hSge
 refine .assign rfl rfl (.ops0 (.thenN ?_))
 refine At.cond (b := (isK en ts ([(⟨#[104, 97, 110, 100, 108, 101]⟩ : ByteArray)]))) rfl (fun hc7 => ?_) (fun hc7 => ?_)
 ·skip
  refine .seq (.region (.load rfl (Ld.ownCell ag98 hb1 rfl) rfl (.nilCheck rfl rfl (.fieldAddr rfl fo102_0 rfl ?_))))
  refine At.call en87 rfl rfl (ptake_any ts v _ hB hSge hts hb0 (is_len hc7)) (fun e wp4 hR' => ?_)
  obtain ⟨vr4, rfl, hts4, hbo4, hF4⟩ := hR'
  refine ⟨_, rfl, ?_⟩
  replace hb1 := Fr.oldB hF4 hb1 (n_b0_b1.symm)
  replace hb2 := Fr.oldB hF4 hb2 (n_b0_b2.symm)
  replace hb3 := Fr.oldB hF4 hb3 (n_b0_b3.symm)
  replace hb4 := Fr.oldB hF4 hb4 (n_b0_b4.symm)
  replace hb5 := Fr.oldB hF4 hb5 (n_b0_b5.symm)
  replace hb7 := Fr.oldB hF4 hb7 (n_b0_b7.symm)
  replace hb8 := Fr.oldB hF4 hb8 (n_b0_b8.symm)
  replace hb9 := Fr.oldB hF4 hb9 (n_b0_b9.symm)
  replace hb10 := Fr.oldB hF4 hb10 (n_b0_b10.symm)
  replace hb0 := hbo4
  replace hR := Fr.then hR hF4 (fun k hk => .inl hk)
  replace hB := Fr.below hR hB0 hB0.size hSge
  refine .ops0 (.thenN (.seq (.region (.load rfl (Ld.ownCell ag98 hb1 rfl) rfl ?_))))
  refine At.call en79 rfl rfl (word_any ts.tail vr4 3 _ hB hSge hts4 hb0 (by decide) (PR.sub hg (by (try simp only [exprS, exB, SB, hc1, hc2, hc3, hc4, hc5, hc6, hc7]); repeat constructor))) (fun e wp5 hR' => ?_)
  obtain ⟨x5, us5, val5, vr5, hq5, rfl, hF5, hts5, hbo5, ho5⟩ := hR'
  refine ⟨_, rfl, ?_⟩
  replace hb1 := Fr.oldB hF5 hb1 (n_b0_b1.symm)
  replace hb2 := Fr.oldB hF5 hb2 (n_b0_b2.symm)
  replace hb3 := Fr.oldB hF5 hb3 (n_b0_b3.symm)
  replace hb4 := Fr.oldB hF5 hb4 (n_b0_b4.symm)
  replace hb5 := Fr.oldB hF5 hb5 (n_b0_b5.symm)
  replace hb7 := Fr.oldB hF5 hb7 (n_b0_b7.symm)
  replace hb8 := Fr.oldB hF5 hb8 (n_b0_b8.symm)
  replace hb9 := Fr.oldB hF5 hb9 (n_b0_b9.symm)
  replace hb10 := Fr.oldB hF5 hb10 (n_b0_b10.symm)
  replace hb0 := hbo5
  have hsz5 := hR.size
  replace hR := Fr.then hR hF5 (fun k hk => .inl hk)
  obtain rfl := ho5
  refine .fieldC rfl ft141_1 ag9 (((tk_ok x5)).c1) rfl (.fieldAddr rfl fo31_0 rfl ?_)
  refine At.store1 rfl rfl hb3 sz3 (by simp) rfl (fun w23 S6 => ?_)
  replace hb0 := S6.other hb0 n_b0_b3
  replace hb1 := S6.other hb1 n_b1_b3
  replace hb2 := S6.other hb2 n_b2_b3
  replace hb4 := S6.other hb4 n_b3_b4.symm
  replace hb5 := S6.other hb5 n_b3_b5.symm
  replace hb7 := S6.other hb7 n_b3_b7.symm
  replace hb8 := S6.other hb8 n_b3_b8.symm
  replace hb9 := S6.other hb9 n_b3_b9.symm
  replace hb10 := S6.other hb10 n_b3_b10.symm
  replace hb3 : w23.heap[b3]? = some (.cells #[.int .i64 14, .int .i64 ((nx en ts).a), zS, zS, zI, zN, zN, zI, zS, zI, zN, zN, zI, zN, zI, zI, zS, zI, zN, zN, zI] 31) := S6.new
  replace hR := hR.setF S6 (.inr gb3)
  refine .fieldAddr rfl fo31_2 rfl ?_
  refine At.store1 rfl rfl hb3 sz9 (by simp) rfl (fun w24 S7 => ?_)
  replace hb0 := S7.other hb0 n_b0_b3
  replace hb1 := S7.other hb1 n_b1_b3
  replace hb2 := S7.other hb2 n_b2_b3
  replace hb4 := S7.other hb4 n_b3_b4.symm
  replace hb5 := S7.other hb5 n_b3_b5.symm
  replace hb7 := S7.other hb7 n_b3_b7.symm
  replace hb8 := S7.other hb8 n_b3_b8.symm
  replace hb9 := S7.other hb9 n_b3_b9.symm
  replace hb10 := S7.other hb10 n_b3_b10.symm
  replace hb3 : w24.heap[b3]? = some (.cells #[.int .i64 14, .int .i64 ((nx en ts).a), .string (bs x5.t), zS, zI, zN, zN, zI, zS, zI, zN, zN, zI, zN, zI, zI, zS, zI, zN, zN, zI] 31) := S7.new
  replace hR := hR.setF S7 (.inr gb3)
  replace hB := Fr.below hR hB0 hB0.size hSge
  refine .ops0 (.thenN (.seq (.region (.load rfl (Ld.ownCell ag98 hb1 rfl) rfl ?_))))
  have hml6 : MLt w24.heap.size [some b0, some b1, some b2, some b3, some b4, some b5, some b7, some b8, some b9, some b10] := (MLt.blk hb0 (MLt.blk hb1 (MLt.blk hb2 (MLt.blk hb3 (MLt.blk hb4 (MLt.blk hb5 (MLt.blk hb7 (MLt.blk hb8 (MLt.blk hb9 (MLt.blk hb10 (MLt.nil _)))))))))))
  refine At.call en62 rfl rfl (hex hdp wB b0 us5 vr5 _ hB hSge hts5 hb0 (by have hz := hbig; have := tail_len (is_len hc7); have := PR.Sh.of (word_sh en 3 (by decide) ts.tail) hq5; omega) (PR.sub hg (by (try simp only [exprS, exB, SB, hc1, hc2, hc3, hc4, hc5, hc6, hc7, hq5]); repeat constructor))) (fun e wp6 hR' => ?_)
  obtain ⟨x6, us6, val6, vr6, hq6, rfl, hF6, hts6, hbo6, ho6⟩ := hR'
  refine ⟨_, rfl, ?_⟩
  replace hb1 := Fr.oldB hF6 hb1 (n_b0_b1.symm)
  replace hb2 := Fr.oldB hF6 hb2 (n_b0_b2.symm)
  replace hb3 := Fr.oldB hF6 hb3 (n_b0_b3.symm)
  replace hb4 := Fr.oldB hF6 hb4 (n_b0_b4.symm)
  replace hb5 := Fr.oldB hF6 hb5 (n_b0_b5.symm)
  replace hb7 := Fr.oldB hF6 hb7 (n_b0_b7.symm)
  replace hb8 := Fr.oldB hF6 hb8 (n_b0_b8.symm)
  replace hb9 := Fr.oldB hF6 hb9 (n_b0_b9.symm)
  replace hb10 := Fr.oldB hF6 hb10 (n_b0_b10.symm)
  replace hb0 := hbo6
  have hsz6 := hR.size
  replace hR := Fr.then hR hF6 (fun k hk => .inl hk)
  obtain ⟨tm6, rfl, htm6, hmt6⟩ := ho6
  have hx6 := Xs.of_new (B := 0) (M := [some b0, some b1, some b2, some b3, some b4, some b5, some b7, some b8, some b9, some b10]) (K := kTm) htm6 (fun b hb => .inr (hmt6.blk b hb)) (fun _ _ => Nat.zero_le _) hml6
  replace hmt6 := hmt6.mono hsz6
  refine At.buildSlice (xs := [.tmp 133]) rfl rfl el22 sz31 ze31 (by intro v hv; simp only [List.mem_cons, List.not_mem_nil, or_false] at hv; rcases hv with rfl <;> first | rfl | simp [Value.cells, ((Xs.one hx6)).size]) rfl (by decide) rfl (fun b11 w25 F11 => ?_)
  have n_b0_b11 := F11.ne' hb0
  have n_b2_b11 := F11.ne' hb2
  have n_b3_b11 := F11.ne' hb3
  have gb11 := F11.gq hR.size
  replace hb0 := F11.old hb0
  replace hb1 := F11.old hb1
  replace hb2 := F11.old hb2
  replace hb3 := F11.old hb3
  replace hb4 := F11.old hb4
  replace hb5 := F11.old hb5
  replace hb7 := F11.old hb7
  replace hb8 := F11.old hb8
  replace hb9 := F11.old hb9
  replace hb10 := F11.old hb10
  replace hx6 := Xs.fresh hx6 F11
  have hb11 : w25.heap[b11]? = some (.cells (([tm6].map Tm.cs).flatMap (·.toList)).toArray 31) := F11.new
  replace hR := hR.freshF F11
  refine .fieldAddr rfl fo31_5 rfl ?_
  refine At.store1 rfl rfl hb3 sz22 (by simp) rfl (fun w26 S8 => ?_)
  replace hb0 := S8.other hb0 n_b0_b3
  replace hb1 := S8.other hb1 n_b1_b3
  replace hb2 := S8.other hb2 n_b2_b3
  replace hb4 := S8.other hb4 n_b3_b4.symm
  replace hb5 := S8.other hb5 n_b3_b5.symm
  replace hb7 := S8.other hb7 n_b3_b7.symm
  replace hb8 := S8.other hb8 n_b3_b8.symm
  replace hb9 := S8.other hb9 n_b3_b9.symm
  replace hb10 := S8.other hb10 n_b3_b10.symm
  replace hb11 := S8.other hb11 n_b3_b11.symm
  replace hx6 := Xs.set hx6 S8 (by simp)
  replace hb3 : w26.heap[b3]? = some (.cells #[.int .i64 14, .int .i64 ((nx en ts).a), .string (bs x5.t), zS, zI, (.slice (some ⟨b11, 0, none⟩) 1 1), zN, zI, zS, zI, zN, zN, zI, zN, zI, zI, zS, zI, zN, zN, zI] 31) := S8.new
  replace hR := hR.setF S8 (.inr gb3)
  refine .ops0 (.thenN (.seq (.region (.load rfl (Ld.ownCell ag98 hb1 rfl) rfl ?_))))
  refine At.buildSlice (xs := [.const (.string (⟨#[123]⟩ : ByteArray))]) rfl rfl el25 sz9 ze9 (by intro v hv; simp only [List.mem_cons, List.not_mem_nil, or_false] at hv; rcases hv with rfl <;> first | rfl | simp [Value.cells]) rfl (by decide) rfl (fun b12 w27 F12 => ?_)
  have n_b0_b12 := F12.ne' hb0
  replace hb0 := F12.old hb0
  replace hb1 := F12.old hb1
  replace hb2 := F12.old hb2
  replace hb3 := F12.old hb3
  replace hb4 := F12.old hb4
  replace hb5 := F12.old hb5
  replace hb7 := F12.old hb7
  replace hb8 := F12.old hb8
  replace hb9 := F12.old hb9
  replace hb10 := F12.old hb10
  replace hb11 := F12.old hb11
  replace hx6 := Xs.fresh hx6 F12
  have hb12 : w27.heap[b12]? = some (.cells #[.string (⟨#[123]⟩ : ByteArray)] 9) := F12.new
  replace hR := hR.freshF F12
  replace hB := Fr.below hR hB0 hB0.size hSge
  refine At.call en78 rfl rfl (ptext_any us6 vr6 (.slice (some ⟨b12, 0, none⟩) 1 1) ([(⟨#[123]⟩ : ByteArray)]) _ hB hSge hts6 hb0 ((StrsAt.own (ss := [(⟨#[123]⟩ : ByteArray)]) hb12 rfl (by decide) : StrsAt _ (.slice (some ⟨b12, 0, none⟩) 1 1) [(⟨#[123]⟩ : ByteArray)])) (fun _ => show b12 ≠ b0 from n_b0_b12.symm) (PR.sub hg (by (try simp only [exprS, exB, SB, hc1, hc2, hc3, hc4, hc5, hc6, hc7, hq5, hq6]); repeat constructor))) (fun e wp7 hR' => ?_)
  obtain ⟨x7, us7, val7, vr7, hq7, rfl, hF7, hts7, hbo7, ho7⟩ := hR'
  refine ⟨_, rfl, ?_⟩
  replace hb1 := Fr.oldB hF7 hb1 (n_b0_b1.symm)
  replace hb2 := Fr.oldB hF7 hb2 (n_b0_b2.symm)
  replace hb3 := Fr.oldB hF7 hb3 (n_b0_b3.symm)
  replace hb4 := Fr.oldB hF7 hb4 (n_b0_b4.symm)
  replace hb5 := Fr.oldB hF7 hb5 (n_b0_b5.symm)
  replace hb7 := Fr.oldB hF7 hb7 (n_b0_b7.symm)
  replace hb8 := Fr.oldB hF7 hb8 (n_b0_b8.symm)
  replace hb9 := Fr.oldB hF7 hb9 (n_b0_b9.symm)
  replace hb10 := Fr.oldB hF7 hb10 (n_b0_b10.symm)
  replace hb11 := Fr.oldB hF7 hb11 (n_b0_b11.symm)
  replace hb12 := Fr.oldB hF7 hb12 (n_b0_b12.symm)
  replace hx6 := Xs.frS hx6 hF7 (by rintro k rfl; simp)
  replace hb0 := hbo7
  have hsz7 := hR.size
  replace hR := Fr.then hR hF7 (fun k hk => .inl hk)
  replace hB := Fr.below hR hB0 hB0.size hSge
  obtain rfl := ho7
  refine .ops0 (.thenN (.seq (.region (.load rfl (Ld.ownCell ag98 hb1 rfl) rfl ?_))))
  have hml8 : MLt wp7.heap.size [some b0, some b1, some b2, some b3, some b4, some b5, some b7, some b8, some b9, some b10, some b11, some b12] := (MLt.blk hb0 (MLt.blk hb1 (MLt.blk hb2 (MLt.blk hb3 (MLt.blk hb4 (MLt.blk hb5 (MLt.blk hb7 (MLt.blk hb8 (MLt.blk hb9 (MLt.blk hb10 (MLt.blk hb11 (MLt.blk hb12 (MLt.nil _)))))))))))))
  refine At.call en91 rfl rfl (clause_any us7 vr7 ex true _ hB hSge hts7 hb0 (by have hz := hbig; have := tail_len (is_len hc7); have := PR.Sh.of (word_sh en 3 (by decide) ts.tail) hq5; have := PR.Sh.of (hxs us5) hq6; have := PR.Le.of (text_le en ([(⟨#[123]⟩ : ByteArray)]) us6) hq7; omega) hxs (hex hdp) (PR.sub hg (by (try simp only [exprS, exB, SB, hc1, hc2, hc3, hc4, hc5, hc6, hc7, hq5, hq6, hq7]); repeat constructor))) (fun e wp8 hR' => ?_)
  obtain ⟨x8, us8, val8, vr8, hq8, rfl, hF8, hts8, hbo8, ho8⟩ := hR'
  refine ⟨_, rfl, ?_⟩
  replace hb1 := Fr.oldB hF8 hb1 (n_b0_b1.symm)
  replace hb2 := Fr.oldB hF8 hb2 (n_b0_b2.symm)
  replace hb3 := Fr.oldB hF8 hb3 (n_b0_b3.symm)
  replace hb4 := Fr.oldB hF8 hb4 (n_b0_b4.symm)
  replace hb5 := Fr.oldB hF8 hb5 (n_b0_b5.symm)
  replace hb7 := Fr.oldB hF8 hb7 (n_b0_b7.symm)
  replace hb8 := Fr.oldB hF8 hb8 (n_b0_b8.symm)
  replace hb9 := Fr.oldB hF8 hb9 (n_b0_b9.symm)
  replace hb10 := Fr.oldB hF8 hb10 (n_b0_b10.symm)
  replace hb11 := Fr.oldB hF8 hb11 (n_b0_b11.symm)
  replace hb12 := Fr.oldB hF8 hb12 (n_b0_b12.symm)
  replace hx6 := Xs.frS hx6 hF8 (by rintro k rfl; simp)
  replace hb0 := hbo8
  have hsz8 := hR.size
  replace hR := Fr.then hR hF8 (fun k hk => .inl hk)
  obtain ⟨tm8, rfl, htm8, hmt8⟩ := ho8
  have hx8 := Xs.of_new (B := 0) (M := [some b0, some b1, some b2, some b3, some b4, some b5, some b7, some b8, some b9, some b10, some b11, some b12]) (K := kAm) htm8 (fun b hb => .inr (hmt8.blk b hb)) (fun _ _ => Nat.zero_le _) hml8
  replace hmt8 := hmt8.mono hsz8
  refine At.buildSlice (xs := [.tmp 140]) rfl rfl el23 sz40 ze40 (by intro v hv; simp only [List.mem_cons, List.not_mem_nil, or_false] at hv; rcases hv with rfl <;> first | rfl | simp [Value.cells, ((Xs.one hx8)).size]) rfl (by decide) rfl (fun b13 w28 F13 => ?_)
  have n_b0_b13 := F13.ne' hb0
  have n_b1_b13 := F13.ne' hb1
  have n_b2_b13 := F13.ne' hb2
  have n_b3_b13 := F13.ne' hb3
  have n_b4_b13 := F13.ne' hb4
  have n_b5_b13 := F13.ne' hb5
  have n_b7_b13 := F13.ne' hb7
  have n_b8_b13 := F13.ne' hb8
  have n_b9_b13 := F13.ne' hb9
  have n_b10_b13 := F13.ne' hb10
  have n_b11_b13 := F13.ne' hb11
  have n_b12_b13 := F13.ne' hb12
  have gb13 := F13.gq hR.size
  replace hb0 := F13.old hb0
  replace hb1 := F13.old hb1
  replace hb2 := F13.old hb2
  replace hb3 := F13.old hb3
  replace hb11 := F13.old hb11
  replace hx6 := Xs.fresh hx6 F13
  replace hx8 := Xs.fresh hx8 F13
  have hb13 : w28.heap[b13]? = some (.cells (([tm8].map Am.cs).flatMap (·.toList)).toArray 40) := F13.new
  replace hR := hR.freshF F13
  refine .fieldAddr rfl fo31_6 rfl ?_
  refine At.store1 rfl rfl hb3 sz23 (by simp) rfl (fun w29 S9 => ?_)
  replace hb0 := S9.other hb0 n_b0_b3
  replace hb1 := S9.other hb1 n_b1_b3
  replace hb2 := S9.other hb2 n_b2_b3
  replace hb11 := S9.other hb11 n_b3_b11.symm
  replace hb13 := S9.other hb13 n_b3_b13.symm
  replace hx6 := Xs.set hx6 S9 (by simp)
  replace hx8 := Xs.set hx8 S9 (by simp)
  replace hb3 : w29.heap[b3]? = some (.cells #[.int .i64 14, .int .i64 ((nx en ts).a), .string (bs x5.t), zS, zI, (.slice (some ⟨b11, 0, none⟩) 1 1), (.slice (some ⟨b13, 0, none⟩) 1 1), zI, zS, zI, zN, zN, zI, zN, zI, zI, zS, zI, zN, zN, zI] 31) := S9.new
  replace hR := hR.setF S9 (.inr gb3)
  refine .ops0 (.thenN (.seq (.block ?_)))
  have hOa : OwnR 40 23 Am.cs w29 (.slice (some ⟨b13, 0, none⟩) 1 1) [tm8] := OwnR.of hb13 (mem1 (Q := fun u => (Am.cs u).size = 23) ((Xs.one hx8)).size) rfl (by decide)
  have gOa : ∀ g, Value.ownBlock (.slice (some ⟨b13, 0, none⟩) 1 1) = some g → w.heap.size ≤ g := fun g h => by cases h; exact gb13
  have qa_b0 : some b0 ≠ Value.ownBlock (.slice (some ⟨b13, 0, none⟩) 1 1) := fun e => n_b0_b13 (Option.some.inj e)
  have qa_b1 : some b1 ≠ Value.ownBlock (.slice (some ⟨b13, 0, none⟩) 1 1) := fun e => n_b1_b13 (Option.some.inj e)
  have qa_b2 : some b2 ≠ Value.ownBlock (.slice (some ⟨b13, 0, none⟩) 1 1) := fun e => n_b2_b13 (Option.some.inj e)
  have qa_b3 : some b3 ≠ Value.ownBlock (.slice (some ⟨b13, 0, none⟩) 1 1) := fun e => n_b3_b13 (Option.some.inj e)
  have qa_b4 : some b4 ≠ Value.ownBlock (.slice (some ⟨b13, 0, none⟩) 1 1) := fun e => n_b4_b13 (Option.some.inj e)
  have qa_b5 : some b5 ≠ Value.ownBlock (.slice (some ⟨b13, 0, none⟩) 1 1) := fun e => n_b5_b13 (Option.some.inj e)
  have qa_b7 : some b7 ≠ Value.ownBlock (.slice (some ⟨b13, 0, none⟩) 1 1) := fun e => n_b7_b13 (Option.some.inj e)
  have qa_b8 : some b8 ≠ Value.ownBlock (.slice (some ⟨b13, 0, none⟩) 1 1) := fun e => n_b8_b13 (Option.some.inj e)
  have qa_b9 : some b9 ≠ Value.ownBlock (.slice (some ⟨b13, 0, none⟩) 1 1) := fun e => n_b9_b13 (Option.some.inj e)
  have qa_b10 : some b10 ≠ Value.ownBlock (.slice (some ⟨b13, 0, none⟩) 1 1) := fun e => n_b10_b13 (Option.some.inj e)
  have qa_b11 : some b11 ≠ Value.ownBlock (.slice (some ⟨b13, 0, none⟩) 1 1) := fun e => n_b11_b13 (Option.some.inj e)
  have qa_b12 : some b12 ≠ Value.ownBlock (.slice (some ⟨b13, 0, none⟩) 1 1) := fun e => n_b12_b13 (Option.some.inj e)
  clear hb13
  refine At.loop (List Tk × Value × Nat × Value × List Am × List SA) (fun (us, vr, f, va, la, xa) => [(1, .pointer (some ⟨b1, 0, none⟩)), (2, .pointer (some ⟨b2, 0, none⟩)), (3, .pointer (some ⟨b3, 0, none⟩))]) (fun (us, vr, f, va, la, xa) w30 => Fr (fun k => k = b0) w w30 ∧ w30.heap[b0]? = some (.cells #[vr, .int .i64 en, .int .i64 (dp + 1)] 102) ∧ w30.heap[b1]? = some (.cells #[.pointer (some ⟨b0, 0, none⟩)] 98) ∧ w30.heap[b2]? = some (.cells #[zI, zI, zS, zS, zI, zN, zN, zI, zS, zI, zN, zN, zI, zN, zI, zI, zS, zI, zN, zN, zI] 31) ∧ w30.heap[b3]? = some (.cells #[.int .i64 14, .int .i64 ((nx en ts).a), .string (bs x5.t), zS, zI, (.slice (some ⟨b11, 0, none⟩) 1 1), va, zI, zS, zI, zN, zN, zI, zN, zI, zI, zS, zI, zN, zN, zI] 31) ∧ w30.heap[b11]? = some (.cells (([tm6].map Tm.cs).flatMap (·.toList)).toArray 31) ∧ OwnR 40 23 Am.cs w30 va la ∧ Xs kAm [Value.ownBlock va, some b0, some b1, some b2, some b3, some b11] w30 la ∧ Xs kTm [Value.ownBlock va, some b0, some b1, some b2, some b3, some b11] w30 [tm6] ∧ (RowsAt wB vr 4 (us.map Tk.cs)) ∧ (exB en ex ts = (clausesP en ex f xa us).bind fun zs us => (textP en [cB] us).bind fun _ us => .ok (.mk 14 (nx en ts).a (bs x5.t) E0B 0 [x6] zs) us) ∧ (us.length < f) ∧ (∀ g, Value.ownBlock va = some g → w.heap.size ≤ g) ∧ (MAL w xa la) ∧ (la.length + us.length ≤ ts.length + 1)) (fun (us, vr, f, va, la, xa) => f) (us8, vr8, (us8.length + 1), (.slice (some ⟨b13, 0, none⟩) 1 1), [tm8], [x8]) (sC rfl (sC rfl (sC rfl sN))) ⟨hR, hb0, hb1, hb2, hb3, hb11, hOa, (Xs.weaken (M' := [Value.ownBlock (.slice (some ⟨b13, 0, none⟩) 1 1), some b0, some b1, some b2, some b3, some b11]) hx8 (SubM.cons (.head _) (SubM.cons (.tail _ (.head _)) (SubM.cons (.tail _ (.tail _ (.head _))) (SubM.cons (.tail _ (.tail _ (.tail _ (.head _)))) (SubM.cons (.tail _ (.tail _ (.tail _ (.tail _ (.head _))))) (SubM.cons (.tail _ (.tail _ (.tail _ (.tail _ (.tail _ (.tail _ (.tail _ (.tail _ (.tail _ (.tail _ (.tail _ (.head _)))))))))))) SubM.nil))))))), (Xs.weaken (M' := [Value.ownBlock (.slice (some ⟨b13, 0, none⟩) 1 1), some b0, some b1, some b2, some b3, some b11]) hx6 (SubM.cons (.head _) (SubM.cons (.tail _ (.tail _ (.tail _ (.head _)))) (SubM.cons (.tail _ (.tail _ (.tail _ (.tail _ (.head _))))) (SubM.cons (.tail _ (.tail _ (.tail _ (.tail _ (.tail _ (.head _)))))) (SubM.cons (.tail _ (.tail _ (.tail _ (.tail _ (.tail _ (.tail _ (.head _))))))) (SubM.cons (.tail _ (.tail _ (.head _))) SubM.nil))))))), (hts8), (by simp only [exB, cond_true, cond_false, PR.bind_ok, hc1, hc2, hc3, hc4, hc5, hc6, hc7, hq5, hq6, hq7, hq8] <;> rfl), (Nat.lt_succ_self _), (gOa), (MAL.one hmt8), (by have := tail_len (is_len hc7); have := PR.Sh.of (word_sh en 3 (by decide) ts.tail) hq5; have := PR.Sh.of (hxs us5) hq6; have := PR.Le.of (text_le en ([(⟨#[123]⟩ : ByteArray)]) us6) hq7; have := PR.Sh.of (clause_sh hxs true us7) hq8; simp; omega)⟩ (fun gh w30 hI => ?_)
  obtain ⟨us, vr, f, va, la, xa⟩ := gh
  clear hR hB hb0 hb1 hb2 hb3 hb4 hb5 hb7 hb8 hb9 hb10 hb11 hb12 hOa hx6 hx8
  obtain ⟨hR, hb0, hb1, hb2, hb3, hb11, hOl, hXa, hXk, hus, hs, hfl, gOl, hTa, hln⟩ := hI
  show At _ _ [(1, .pointer (some ⟨b1, 0, none⟩)), (2, .pointer (some ⟨b2, 0, none⟩)), (3, .pointer (some ⟨b3, 0, none⟩))] _ _
  refine .seq (.seq (.region (.load rfl (Ld.ownCell ag98 hb1 rfl) rfl (.nilCheck rfl rfl (.fieldAddr rfl fo102_0 rfl ?_)))))
  refine At.buildSlice (xs := [.const (.string (⟨#[59]⟩ : ByteArray))]) rfl rfl el25 sz9 ze9 (by intro v hv; simp only [List.mem_cons, List.not_mem_nil, or_false] at hv; rcases hv with rfl <;> first | rfl | simp [Value.cells]) rfl (by decide) rfl (fun b14 w31 F14 => ?_)
  have n_b0_b14 := F14.ne' hb0
  replace hb0 := F14.old hb0
  replace hb1 := F14.old hb1
  replace hb2 := F14.old hb2
  replace hb3 := F14.old hb3
  replace hb11 := F14.old hb11
  replace hOl := hOl.fresh F14
  replace hXa := Xs.fresh hXa F14
  replace hXk := Xs.fresh hXk F14
  have hb14 : w31.heap[b14]? = some (.cells #[.string (⟨#[59]⟩ : ByteArray)] 9) := F14.new
  replace hR := hR.freshF F14
  replace hB := Fr.below hR hB0 hB0.size hSge
  refine At.call en59 rfl rfl (is_any us vr (.slice (some ⟨b14, 0, none⟩) 1 1) ([(⟨#[59]⟩ : ByteArray)]) _ ((hus).keep hB) hb0 ((StrsAt.own (ss := [(⟨#[59]⟩ : ByteArray)]) hb14 rfl (by decide) : StrsAt _ (.slice (some ⟨b14, 0, none⟩) 1 1) [(⟨#[59]⟩ : ByteArray)]))) (fun e w32 hR' => ?_)
  obtain ⟨rfl, hbl8⟩ := hR'
  refine ⟨_, rfl, ?_⟩
  replace hb0 := Below.old hbl8 hb0
  replace hb1 := Below.old hbl8 hb1
  replace hb2 := Below.old hbl8 hb2
  replace hb3 := Below.old hbl8 hb3
  replace hb11 := Below.old hbl8 hb11
  replace hb14 := Below.old hbl8 hb14
  replace hOl := hOl.below hbl8
  replace hXa := Xs.below hXa hbl8
  replace hXk := Xs.below hXk hbl8
  replace hR := hR.callF hbl8
  replace hB := Fr.below hR hB0 hB0.size hSge
  refine .ops0 (.thenN ?_)
  refine At.cond (b := (isK en us ([(⟨#[59]⟩ : ByteArray)]))) rfl (fun hc8 => ?_) (fun hc8 => ?_)
  ·skip
   refine .skip (.thenN (.block (.seq (.region (.load rfl (Ld.ownCell ag98 hb1 rfl) rfl (.nilCheck rfl rfl (.fieldAddr rfl fo102_0 rfl ?_)))))))
   refine At.call en87 rfl rfl (ptake_any us vr _ hB hSge hus hb0 (is_len hc8)) (fun e wp9 hR' => ?_)
   obtain ⟨vr9, rfl, hts9, hbo9, hF9⟩ := hR'
   refine ⟨_, rfl, ?_⟩
   replace hb1 := Fr.oldB hF9 hb1 (n_b0_b1.symm)
   replace hb2 := Fr.oldB hF9 hb2 (n_b0_b2.symm)
   replace hb3 := Fr.oldB hF9 hb3 (n_b0_b3.symm)
   replace hb11 := Fr.oldB hF9 hb11 (n_b0_b11.symm)
   replace hb14 := Fr.oldB hF9 hb14 (n_b0_b14.symm)
   replace hOl := OwnR.frB hOl hF9 hb0 rfl
   replace hXa := Xs.frS hXa hF9 (by rintro k rfl; simp)
   replace hXk := Xs.frS hXk hF9 (by rintro k rfl; simp)
   replace hb0 := hbo9
   replace hR := Fr.then hR hF9 (fun k hk => .inl hk)
   replace hB := Fr.below hR hB0 hB0.size hSge
   refine .ops0 (.thenN ?_)
   obtain ⟨u2, hu2⟩ := some_of_lt (l := (la ++ [zeroAm])) (i := la.length) (by first | omega | (simp; done) | (simp; omega))
   refine .drawG (n := 11) mixed (by kernel_rfl) rfl (PanicOk.block (PanicOk.then (PanicOk.block (PanicOk.then (PanicOk.block (PanicOk.then PanicOk.bodyD1)))))) ?_
   have hR := Fr.drewF hR
   have hB := Below.drewB hB
   have hb0 : _ := (show wp9.drew.heap[b0]? = _ from hb0)
   have hb1 : _ := (show wp9.drew.heap[b1]? = _ from hb1)
   have hb2 : _ := (show wp9.drew.heap[b2]? = _ from hb2)
   have hb3 : _ := (show wp9.drew.heap[b3]? = _ from hb3)
   have hb11 : _ := (show wp9.drew.heap[b11]? = _ from hb11)
   have hb14 : _ := (show wp9.drew.heap[b14]? = _ from hb14)
   have hOl := hOl.drew
   have hXa := Xs.drew hXa
   have hXk := Xs.drew hXk
   refine .wpcS (i := 0) (d := 152) (.pointer (some ⟨b3, 0 + 6, none⟩)) (by kernel_rfl) rfl rfl rfl (fun Lx => .fieldAddr rfl fo31_6 rfl (.ops0 fun a ha => ⟨ha, rfl⟩)) ?_
   refine .wpcS (i := 1) (d := 153) (va) (by kernel_rfl) rfl rfl rfl (fun Lx => .load rfl (Ld.ownCell ag23 hb3 rfl) rfl (.ops0 fun a ha => ⟨ha, rfl⟩)) ?_
   refine .wpcS (i := 2) (d := 154) (.pointer (some ⟨b0, 0, none⟩)) (by kernel_rfl) rfl rfl rfl (fun Lx => .load rfl (Ld.ownCell ag98 hb1 rfl) rfl (.ops0 fun a ha => ⟨ha, rfl⟩)) ?_
   refine .wpcS (i := 4) (d := 156) (.int .i64 (la.length : Int)) (by kernel_rfl) rfl rfl rfl (fun Lx => .lenSl rfl (Own.slOk hOl) el23 rfl (.ops0 fun a ha => ⟨ha, rfl⟩)) ?_
   refine At.wpcE [3, 5] (by kernel_rfl) (by kernel_rfl) (.cons [0, 1, 4] rfl (by kernel_rfl) ?_ (.cons [0, 1, 2, 4] rfl (by kernel_rfl) ?_ .nil))
   ·skip
    have hml10 : MLt wp9.drew.heap.size [some b0, some b1, some b2, some b3, some b11, some b14, Value.ownBlock va] := (MLt.blk hb0 (MLt.blk hb1 (MLt.blk hb2 (MLt.blk hb3 (MLt.blk hb11 (MLt.blk hb14 (MLt.own hOl (MLt.nil _))))))))
    refine At.call en91 rfl rfl (clause_any us.tail vr9 ex false _ hB hSge hts9 hb0 (by have hz := hbig; have := hln; have := tail_len (is_len hc8); omega) hxs (hex hdp) (PR.sub hg (by rw [exprS]; simp only [hc1, cond_false]; obtain ⟨q, rfl⟩ : ∃ q, f = q + 1 := ⟨f - 1, by omega⟩; rw [hs, clausesP]; (try simp only [exprS, exB, SB, hc1, hc2, hc3, hc4, hc5, hc6, hc7, hc8, hq5, hq6, hq7, hq8]); repeat constructor))) (fun e wp10 hR' => ?_)
    obtain ⟨x10, us10, val10, vr10, hq10, rfl, hF10, hts10, hbo10, ho10⟩ := hR'
    refine ⟨_, rfl, ?_⟩
    replace hb1 := Fr.oldB hF10 hb1 (n_b0_b1.symm)
    replace hb2 := Fr.oldB hF10 hb2 (n_b0_b2.symm)
    replace hb3 := Fr.oldB hF10 hb3 (n_b0_b3.symm)
    replace hb11 := Fr.oldB hF10 hb11 (n_b0_b11.symm)
    replace hOl := OwnR.frB hOl hF10 hb0 rfl
    replace hXa := Xs.frS hXa hF10 (by rintro k rfl; simp)
    replace hXk := Xs.frS hXk hF10 (by rintro k rfl; simp)
    replace hb0 := hbo10
    have hsz10 := hR.size
    replace hR := Fr.then hR hF10 (fun k hk => .inl hk)
    obtain ⟨tm10, rfl, htm10, hmt10⟩ := ho10
    have hx10 := Xs.of_new (B := 0) (M := [some b0, some b1, some b2, some b3, some b11, some b14, Value.ownBlock va]) (K := kAm) htm10 (fun b hb => .inr (hmt10.blk b hb)) (fun _ _ => Nat.zero_le _) hml10
    replace hmt10 := hmt10.mono hsz10
    refine .ops0 ?_
    refine At.wpcN (.cons rfl rfl rfl rfl (fun Lx => ?_) (.cons rfl rfl rfl rfl (fun Lx => ?_) (.cons rfl rfl rfl rfl (fun Lx => ?_) .nil))) ?_
    ·skip
     exact .fieldAddr rfl fo31_6 rfl (.ops0 fun a ha => ⟨ha, rfl⟩)
    ·skip
     exact .load rfl (Ld.ownCell ag23 hb3 rfl) rfl (.ops0 fun a ha => ⟨ha, rfl⟩)
    ·skip
     exact .lenSl rfl (Own.slOk hOl) el23 rfl (.ops0 fun a ha => ⟨ha, rfl⟩)
    refine At.wpcE [5] (by kernel_rfl) (by kernel_rfl) (.cons [0, 1, 4] rfl (by kernel_rfl) ?_ .nil)
    refine At.buildSlice (xs := [.const (.agg #[zS, zN, zI, zI, zS, zS, zI, zN, zN, zI, zS, zI, zN, zN, zI, zN, zI, zI, zS, zI, zN, zN, zI])]) rfl rfl el23 sz40 ze40 (by intro v hv; simp only [List.mem_cons, List.not_mem_nil, or_false] at hv; rcases hv with rfl <;> first | rfl | simp [Value.cells, ((zeroAm_ok _)).size]) rfl (by decide) rfl (fun b15 w33 F15 => ?_)
    have q_hOl_b15 : some b15 ≠ Value.ownBlock va := Own.neFresh hOl F15
    replace hb0 := F15.old hb0
    replace hb1 := F15.old hb1
    replace hb2 := F15.old hb2
    replace hb3 := F15.old hb3
    replace hb11 := F15.old hb11
    replace hOl := hOl.fresh F15
    replace hXa := Xs.fresh hXa F15
    replace hXk := Xs.fresh hXk F15
    replace hx10 := Xs.fresh hx10 F15
    have hb15 : w33.heap[b15]? = some (.cells (([zeroAm].map Am.cs).flatMap (·.toList)).toArray 40) := F15.new
    replace hR := hR.freshF F15
    refine .ops0 ?_
    refine At.wpcN (.cons rfl rfl rfl rfl (fun Lx => ?_) (.cons rfl rfl rfl rfl (fun Lx => ?_) (.cons rfl rfl rfl rfl (fun Lx => ?_) .nil))) ?_
    ·skip
     exact .fieldAddr rfl fo31_6 rfl (.ops0 fun a ha => ⟨ha, rfl⟩)
    ·skip
     exact .load rfl (Ld.ownCell ag23 hb3 rfl) rfl (.ops0 fun a ha => ⟨ha, rfl⟩)
    ·skip
     exact .lenSl rfl (Own.slOk hOl) el23 rfl (.ops0 fun a ha => ⟨ha, rfl⟩)
    refine At.wpcE [6] (by kernel_rfl) (by kernel_rfl) (.cons [] rfl (by kernel_rfl) ?_ .nil)
    refine At.appendR (f := Am.cs) rfl rfl el23 el23 sz40 by40 ze40 rfl hOl (rows_own (f := Am.cs) (m := 1) hb15 (fun u hu => ((mem1 (Q := fun u => AmOk w33 u) (((zeroAm_ok _)).keep (Below.refl _ _))) u hu).size) rfl (by decide)) (by decide) (fun u hu => (((mem1 (Q := fun u => AmOk w33 u) (((zeroAm_ok _)).keep (Below.refl _ _)))) u hu).one) (by first | omega | (simp; omega)) (by first | omega | (simp; omega)) rfl (fun va1 w34 hO1 hA1 => ?_)
    replace hO1 : OwnR 40 23 Am.cs w34 va1 (la ++ [zeroAm]) := hO1
    replace hb0 := hA1.old hb0 (hOl.neT hb0 rfl)
    replace hb1 := hA1.old hb1 (hOl.neT hb1 rfl)
    replace hb2 := hA1.old hb2 (hOl.neT hb2 rfl)
    replace hb3 := hA1.old hb3 (hOl.neT hb3 rfl)
    replace hb11 := hA1.old hb11 (hOl.neT hb11 rfl)
    clear hb15
    replace hXa := Xs.app hXa hA1 (.inr (by simp))
    replace hXk := Xs.app hXk hA1 (.inr (by simp))
    replace hx10 := Xs.app hx10 hA1 (.inr (by simp))
    have ghO1 := hA1.ge hR.size gOl
    replace hR := hR.appF hA1 (fun g hg => .inr (gOl g hg))
    refine .ops0 (.wpcN .nil ?_)
    refine .wpcS (i := 7) (d := 159) (.pointer (some ⟨vBlock va1, vOff va1 + la.length * 23, none⟩)) (by kernel_rfl) rfl rfl rfl (fun Lx => .indexAddr (i := la.length) rfl rfl (Own.slOk hO1) (lt_of_some hu2) el23 sz40 rfl (.ops0 fun a ha => ⟨ha, rfl⟩)) ?_
    refine .wpcS (i := 9) (d := 160) (.pointer (some ⟨b3, 0 + 6, none⟩)) (by kernel_rfl) rfl rfl rfl (fun Lx => .fieldAddr rfl fo31_6 rfl (.ops0 fun a ha => ⟨ha, rfl⟩)) ?_
    refine At.wpcE [8, 10] (by kernel_rfl) (by kernel_rfl) (.cons [9] rfl (by kernel_rfl) ?_ (.cons [7] rfl (by kernel_rfl) ?_ .nil))
    ·skip
     refine At.storeRow (f := Am.cs) (i := la.length) (off := 0) tm10 rfl rfl hO1 hu2 (fun u hu => (((all_app (Q := fun u => AmOk w34 u) (Xs.ok hXa) (mem1 (Q := fun u => AmOk w34 u) (((zeroAm_ok _)).keep (Below.refl _ _))))) u hu).size) (by omega) (sz40.trans (congrArg some ((Xs.one hx10)).size.symm)) (splice_all (((((all_app (Q := fun u => AmOk w34 u) (Xs.ok hXa) (mem1 (Q := fun u => AmOk w34 u) (((zeroAm_ok _)).keep (Below.refl _ _))))) u2 (List.mem_of_getElem? hu2))).size.trans ((Xs.one hx10)).size.symm)).symm (by show 0 + tm10.cs.size ≤ 23; rw [((Xs.one hx10)).size]; decide) ((Xs.one hx10)).one (fun w35 hO2 hA2 => ?_)
     replace hb0 := hA2.old hb0 (hO1.neT hb0 rfl)
     replace hb1 := hA2.old hb1 (hO1.neT hb1 rfl)
     replace hb2 := hA2.old hb2 (hO1.neT hb2 rfl)
     replace hb3 := hA2.old hb3 (hO1.neT hb3 rfl)
     replace hb11 := hA2.old hb11 (hO1.neT hb11 rfl)
     replace hXa := Xs.app hXa hA2 (.inr (by simp))
     replace hXk := Xs.app hXk hA2 (.inr (by simp))
     replace hx10 := Xs.app hx10 hA2 (.inr (by simp))
     replace hR := hR.appF hA2 (fun g hg => .inr (ghO1 g hg))
     refine .ops0 ?_
     refine At.wpcN (.cons rfl rfl rfl rfl (fun Lx => ?_) .nil) ?_
     ·skip
      exact .fieldAddr rfl fo31_6 rfl (.ops0 fun a ha => ⟨ha, rfl⟩)
     refine At.wpcE [10] (by kernel_rfl) (by kernel_rfl) (.cons [] rfl (by kernel_rfl) ?_ .nil)
     refine At.store1 rfl rfl hb3 sz23 (by simp) (hO2).one (fun w36 S10 => ?_)
     replace hb0 := S10.other hb0 n_b0_b3
     replace hb1 := S10.other hb1 n_b1_b3
     replace hb2 := S10.other hb2 n_b2_b3
     replace hb11 := S10.other hb11 n_b3_b11.symm
     replace hO2 := hO2.set S10 (hO2.neT hb3 rfl)
     replace hXa := Xs.set hXa S10 (by simp)
     replace hXk := Xs.set hXk S10 (by simp)
     replace hx10 := Xs.set hx10 S10 (by simp)
     replace hb3 : w36.heap[b3]? = some (.cells #[.int .i64 14, .int .i64 ((nx en ts).a), .string (bs x5.t), zS, zI, (.slice (some ⟨b11, 0, none⟩) 1 1), va1, zI, zS, zI, zN, zN, zI, zN, zI, zI, zS, zI, zN, zN, zI] 31) := S10.new
     replace hR := hR.setF S10 (.inr gb3)
     refine .ops0 (.wpcN .nil (.wpcZ (.inN (.thenN ?_))))
     exact fun act_ hact_ => ⟨(us10, vr10, (f - 1), va1, (la ++ [tm10]), (xa ++ [x10])), hact_.sub (sC rfl (sC rfl (sC rfl sN))), ⟨hR, hb0, hb1, hb2, hb3, hb11, (by have q := hO2; rw [set_snoc] at q; exact q), (Xs.append (Xs.weaken (M' := [Value.ownBlock va1, some b0, some b1, some b2, some b3, some b11]) hXa (SubM.cons (.head _) (SubM.cons (.tail _ (.tail _ (.tail _ (.tail _ (.tail _ (.head _)))))) (SubM.cons (.tail _ (.tail _ (.tail _ (.tail _ (.tail _ (.tail _ (.head _))))))) (SubM.cons (.tail _ (.tail _ (.tail _ (.tail _ (.tail _ (.tail _ (.tail _ (.head _)))))))) (SubM.cons (.tail _ (.tail _ (.tail _ (.tail _ (.tail _ (.tail _ (.tail _ (.tail _ (.head _))))))))) (SubM.cons (.tail _ (.tail _ (.tail _ (.tail _ (.tail _ (.tail _ (.tail _ (.tail _ (.tail _ (.head _)))))))))) SubM.nil))))))) (Xs.weaken (M' := [Value.ownBlock va1, some b0, some b1, some b2, some b3, some b11]) hx10 (SubM.cons (.head _) (SubM.cons (.tail _ (.tail _ (.tail _ (.head _)))) (SubM.cons (.tail _ (.tail _ (.tail _ (.tail _ (.head _))))) (SubM.cons (.tail _ (.tail _ (.tail _ (.tail _ (.tail _ (.head _)))))) (SubM.cons (.tail _ (.tail _ (.tail _ (.tail _ (.tail _ (.tail _ (.head _))))))) (SubM.cons (.tail _ (.tail _ (.tail _ (.tail _ (.tail _ (.tail _ (.tail _ (.head _)))))))) SubM.nil)))))))), (Xs.weaken (M' := [Value.ownBlock va1, some b0, some b1, some b2, some b3, some b11]) hXk (SubM.cons (.head _) (SubM.cons (.tail _ (.tail _ (.tail _ (.tail _ (.tail _ (.head _)))))) (SubM.cons (.tail _ (.tail _ (.tail _ (.tail _ (.tail _ (.tail _ (.head _))))))) (SubM.cons (.tail _ (.tail _ (.tail _ (.tail _ (.tail _ (.tail _ (.tail _ (.head _)))))))) (SubM.cons (.tail _ (.tail _ (.tail _ (.tail _ (.tail _ (.tail _ (.tail _ (.tail _ (.head _))))))))) (SubM.cons (.tail _ (.tail _ (.tail _ (.tail _ (.tail _ (.tail _ (.tail _ (.tail _ (.tail _ (.head _)))))))))) SubM.nil))))))), (hts10), (by obtain ⟨q, rfl⟩ : ∃ q, f = q + 1 := ⟨f - 1, by omega⟩; rw [hs, clausesP]; simp only [smB, hc1, hc2, hc3, hc4, hc5, hc6, hc7, hc8, hq5, hq6, hq7, hq8, hq10, cond_true, PR.bind_ok]; rfl), (by have := hln; have := tail_len (is_len hc8); have := PR.Sh.of (clause_sh hxs false us.tail) hq10; omega), (ghO1), (MAL.snoc hTa hmt10), (by have := hln; have := tail_len (is_len hc8); have := PR.Sh.of (clause_sh hxs false us.tail) hq10; simp; omega)⟩, by first | omega | (dsimp only; omega)⟩
    refine At.store1 rfl rfl hb3 sz23 (by simp) (hO1).one (fun w37 S11 => ?_)
    replace hb0 := S11.other hb0 n_b0_b3
    replace hb1 := S11.other hb1 n_b1_b3
    replace hb2 := S11.other hb2 n_b2_b3
    replace hb11 := S11.other hb11 n_b3_b11.symm
    replace hO1 := hO1.set S11 (hO1.neT hb3 rfl)
    replace hXa := Xs.set hXa S11 (by simp)
    replace hXk := Xs.set hXk S11 (by simp)
    replace hx10 := Xs.set hx10 S11 (by simp)
    replace hb3 : w37.heap[b3]? = some (.cells #[.int .i64 14, .int .i64 ((nx en ts).a), .string (bs x5.t), zS, zI, (.slice (some ⟨b11, 0, none⟩) 1 1), va1, zI, zS, zI, zN, zN, zI, zN, zI, zI, zS, zI, zN, zN, zI] 31) := S11.new
    replace hR := hR.setF S11 (.inr gb3)
    refine .ops0 ?_
    refine At.wpcN (.cons rfl rfl rfl rfl (fun Lx => ?_) .nil) ?_
    ·skip
     exact .indexAddr (i := la.length) rfl rfl (Own.slOk hO1) (lt_of_some hu2) el23 sz40 rfl (.ops0 fun a ha => ⟨ha, rfl⟩)
    refine At.wpcE [8] (by kernel_rfl) (by kernel_rfl) (.cons [] rfl (by kernel_rfl) ?_ .nil)
    refine At.storeRow (f := Am.cs) (i := la.length) (off := 0) tm10 rfl rfl hO1 hu2 (fun u hu => (((all_app (Q := fun u => AmOk w37 u) (Xs.ok hXa) (mem1 (Q := fun u => AmOk w37 u) (((zeroAm_ok _)).keep (Below.refl _ _))))) u hu).size) (by omega) (sz40.trans (congrArg some ((Xs.one hx10)).size.symm)) (splice_all (((((all_app (Q := fun u => AmOk w37 u) (Xs.ok hXa) (mem1 (Q := fun u => AmOk w37 u) (((zeroAm_ok _)).keep (Below.refl _ _))))) u2 (List.mem_of_getElem? hu2))).size.trans ((Xs.one hx10)).size.symm)).symm (by show 0 + tm10.cs.size ≤ 23; rw [((Xs.one hx10)).size]; decide) ((Xs.one hx10)).one (fun w38 hO3 hA3 => ?_)
    replace hb0 := hA3.old hb0 (hO1.neT hb0 rfl)
    replace hb1 := hA3.old hb1 (hO1.neT hb1 rfl)
    replace hb2 := hA3.old hb2 (hO1.neT hb2 rfl)
    replace hb3 := hA3.old hb3 (hO1.neT hb3 rfl)
    replace hb11 := hA3.old hb11 (hO1.neT hb11 rfl)
    replace hXa := Xs.app hXa hA3 (.inr (by simp))
    replace hXk := Xs.app hXk hA3 (.inr (by simp))
    replace hx10 := Xs.app hx10 hA3 (.inr (by simp))
    replace hR := hR.appF hA3 (fun g hg => .inr (ghO1 g hg))
    refine .ops0 (.wpcN .nil (.wpcZ (.inN (.thenN ?_))))
    exact fun act_ hact_ => ⟨(us10, vr10, (f - 1), va1, (la ++ [tm10]), (xa ++ [x10])), hact_.sub (sC rfl (sC rfl (sC rfl sN))), ⟨hR, hb0, hb1, hb2, hb3, hb11, (by have q := hO3; rw [set_snoc] at q; exact q), (Xs.append (Xs.weaken (M' := [Value.ownBlock va1, some b0, some b1, some b2, some b3, some b11]) hXa (SubM.cons (.head _) (SubM.cons (.tail _ (.tail _ (.tail _ (.tail _ (.tail _ (.head _)))))) (SubM.cons (.tail _ (.tail _ (.tail _ (.tail _ (.tail _ (.tail _ (.head _))))))) (SubM.cons (.tail _ (.tail _ (.tail _ (.tail _ (.tail _ (.tail _ (.tail _ (.head _)))))))) (SubM.cons (.tail _ (.tail _ (.tail _ (.tail _ (.tail _ (.tail _ (.tail _ (.tail _ (.head _))))))))) (SubM.cons (.tail _ (.tail _ (.tail _ (.tail _ (.tail _ (.tail _ (.tail _ (.tail _ (.tail _ (.head _)))))))))) SubM.nil))))))) (Xs.weaken (M' := [Value.ownBlock va1, some b0, some b1, some b2, some b3, some b11]) hx10 (SubM.cons (.head _) (SubM.cons (.tail _ (.tail _ (.tail _ (.head _)))) (SubM.cons (.tail _ (.tail _ (.tail _ (.tail _ (.head _))))) (SubM.cons (.tail _ (.tail _ (.tail _ (.tail _ (.tail _ (.head _)))))) (SubM.cons (.tail _ (.tail _ (.tail _ (.tail _ (.tail _ (.tail _ (.head _))))))) (SubM.cons (.tail _ (.tail _ (.tail _ (.tail _ (.tail _ (.tail _ (.tail _ (.head _)))))))) SubM.nil)))))))), (Xs.weaken (M' := [Value.ownBlock va1, some b0, some b1, some b2, some b3, some b11]) hXk (SubM.cons (.head _) (SubM.cons (.tail _ (.tail _ (.tail _ (.tail _ (.tail _ (.head _)))))) (SubM.cons (.tail _ (.tail _ (.tail _ (.tail _ (.tail _ (.tail _ (.head _))))))) (SubM.cons (.tail _ (.tail _ (.tail _ (.tail _ (.tail _ (.tail _ (.tail _ (.head _)))))))) (SubM.cons (.tail _ (.tail _ (.tail _ (.tail _ (.tail _ (.tail _ (.tail _ (.tail _ (.head _))))))))) (SubM.cons (.tail _ (.tail _ (.tail _ (.tail _ (.tail _ (.tail _ (.tail _ (.tail _ (.tail _ (.head _)))))))))) SubM.nil))))))), (hts10), (by obtain ⟨q, rfl⟩ : ∃ q, f = q + 1 := ⟨f - 1, by omega⟩; rw [hs, clausesP]; simp only [smB, hc1, hc2, hc3, hc4, hc5, hc6, hc7, hc8, hq5, hq6, hq7, hq8, hq10, cond_true, PR.bind_ok]; rfl), (by have := hln; have := tail_len (is_len hc8); have := PR.Sh.of (clause_sh hxs false us.tail) hq10; omega), (ghO1), (MAL.snoc hTa hmt10), (by have := hln; have := tail_len (is_len hc8); have := PR.Sh.of (clause_sh hxs false us.tail) hq10; simp; omega)⟩, by first | omega | (dsimp only; omega)⟩
   refine At.buildSlice (xs := [.const (.agg #[zS, zN, zI, zI, zS, zS, zI, zN, zN, zI, zS, zI, zN, zN, zI, zN, zI, zI, zS, zI, zN, zN, zI])]) rfl rfl el23 sz40 ze40 (by intro v hv; simp only [List.mem_cons, List.not_mem_nil, or_false] at hv; rcases hv with rfl <;> first | rfl | simp [Value.cells, ((zeroAm_ok _)).size]) rfl (by decide) rfl (fun b16 w39 F16 => ?_)
   have q_hOl_b16 : some b16 ≠ Value.ownBlock va := Own.neFresh hOl F16
   have n_b0_b16 := F16.ne' hb0
   replace hb0 := F16.old hb0
   replace hb1 := F16.old hb1
   replace hb2 := F16.old hb2
   replace hb3 := F16.old hb3
   replace hb11 := F16.old hb11
   replace hb14 := F16.old hb14
   replace hOl := hOl.fresh F16
   replace hXa := Xs.fresh hXa F16
   replace hXk := Xs.fresh hXk F16
   have hb16 : w39.heap[b16]? = some (.cells (([zeroAm].map Am.cs).flatMap (·.toList)).toArray 40) := F16.new
   replace hR := hR.freshF F16
   replace hB := Fr.below hR hB0 hB0.size hSge
   refine .ops0 ?_
   refine At.wpcN (.cons rfl rfl rfl rfl (fun Lx => ?_) (.cons rfl rfl rfl rfl (fun Lx => ?_) (.cons rfl rfl rfl rfl (fun Lx => ?_) (.cons rfl rfl rfl rfl (fun Lx => ?_) .nil)))) ?_
   ·skip
    exact .fieldAddr rfl fo31_6 rfl (.ops0 fun a ha => ⟨ha, rfl⟩)
   ·skip
    exact .load rfl (Ld.ownCell ag23 hb3 rfl) rfl (.ops0 fun a ha => ⟨ha, rfl⟩)
   ·skip
    exact .load rfl (Ld.ownCell ag98 hb1 rfl) rfl (.ops0 fun a ha => ⟨ha, rfl⟩)
   ·skip
    exact .lenSl rfl (Own.slOk hOl) el23 rfl (.ops0 fun a ha => ⟨ha, rfl⟩)
   refine At.wpcE [3] (by kernel_rfl) (by kernel_rfl) (.cons [0, 1, 4] rfl (by kernel_rfl) ?_ .nil)
   have hml11 : MLt w39.heap.size [some b0, some b1, some b2, some b3, some b11, some b14, some b16, Value.ownBlock va] := (MLt.blk hb0 (MLt.blk hb1 (MLt.blk hb2 (MLt.blk hb3 (MLt.blk hb11 (MLt.blk hb14 (MLt.blk hb16 (MLt.own hOl (MLt.nil _)))))))))
   refine At.call en91 rfl rfl (clause_any us.tail vr9 ex false _ hB hSge hts9 hb0 (by have hz := hbig; have := hln; have := tail_len (is_len hc8); omega) hxs (hex hdp) (PR.sub hg (by rw [exprS]; simp only [hc1, cond_false]; obtain ⟨q, rfl⟩ : ∃ q, f = q + 1 := ⟨f - 1, by omega⟩; rw [hs, clausesP]; (try simp only [exprS, exB, SB, hc1, hc2, hc3, hc4, hc5, hc6, hc7, hc8, hq5, hq6, hq7, hq8]); repeat constructor))) (fun e wp11 hR' => ?_)
   obtain ⟨x11, us11, val11, vr11, hq11, rfl, hF11, hts11, hbo11, ho11⟩ := hR'
   refine ⟨_, rfl, ?_⟩
   replace hb1 := Fr.oldB hF11 hb1 (n_b0_b1.symm)
   replace hb2 := Fr.oldB hF11 hb2 (n_b0_b2.symm)
   replace hb3 := Fr.oldB hF11 hb3 (n_b0_b3.symm)
   replace hb11 := Fr.oldB hF11 hb11 (n_b0_b11.symm)
   replace hb16 := Fr.oldB hF11 hb16 (n_b0_b16.symm)
   replace hOl := OwnR.frB hOl hF11 hb0 rfl
   replace hXa := Xs.frS hXa hF11 (by rintro k rfl; simp)
   replace hXk := Xs.frS hXk hF11 (by rintro k rfl; simp)
   replace hb0 := hbo11
   have hsz11 := hR.size
   replace hR := Fr.then hR hF11 (fun k hk => .inl hk)
   obtain ⟨tm11, rfl, htm11, hmt11⟩ := ho11
   have hx11 := Xs.of_new (B := 0) (M := [some b0, some b1, some b2, some b3, some b11, some b14, some b16, Value.ownBlock va]) (K := kAm) htm11 (fun b hb => .inr (hmt11.blk b hb)) (fun _ _ => Nat.zero_le _) hml11
   replace hmt11 := hmt11.mono hsz11
   refine .ops0 ?_
   refine At.wpcN (.cons rfl rfl rfl rfl (fun Lx => ?_) (.cons rfl rfl rfl rfl (fun Lx => ?_) (.cons rfl rfl rfl rfl (fun Lx => ?_) .nil))) ?_
   ·skip
    exact .fieldAddr rfl fo31_6 rfl (.ops0 fun a ha => ⟨ha, rfl⟩)
   ·skip
    exact .load rfl (Ld.ownCell ag23 hb3 rfl) rfl (.ops0 fun a ha => ⟨ha, rfl⟩)
   ·skip
    exact .lenSl rfl (Own.slOk hOl) el23 rfl (.ops0 fun a ha => ⟨ha, rfl⟩)
   refine At.wpcE [6] (by kernel_rfl) (by kernel_rfl) (.cons [] rfl (by kernel_rfl) ?_ .nil)
   refine At.appendR (f := Am.cs) rfl rfl el23 el23 sz40 by40 ze40 rfl hOl (rows_own (f := Am.cs) (m := 1) hb16 (fun u hu => ((mem1 (Q := fun u => AmOk wp11 u) (((zeroAm_ok _)).keep (Below.refl _ _))) u hu).size) rfl (by decide)) (by decide) (fun u hu => (((mem1 (Q := fun u => AmOk wp11 u) (((zeroAm_ok _)).keep (Below.refl _ _)))) u hu).one) (by first | omega | (simp; omega)) (by first | omega | (simp; omega)) rfl (fun va2 w40 hO4 hA4 => ?_)
   replace hO4 : OwnR 40 23 Am.cs w40 va2 (la ++ [zeroAm]) := hO4
   replace hb0 := hA4.old hb0 (hOl.neT hb0 rfl)
   replace hb1 := hA4.old hb1 (hOl.neT hb1 rfl)
   replace hb2 := hA4.old hb2 (hOl.neT hb2 rfl)
   replace hb3 := hA4.old hb3 (hOl.neT hb3 rfl)
   replace hb11 := hA4.old hb11 (hOl.neT hb11 rfl)
   clear hb16
   replace hXa := Xs.app hXa hA4 (.inr (by simp))
   replace hXk := Xs.app hXk hA4 (.inr (by simp))
   replace hx11 := Xs.app hx11 hA4 (.inr (by simp))
   have ghO4 := hA4.ge hR.size gOl
   replace hR := hR.appF hA4 (fun g hg => .inr (gOl g hg))
   refine .ops0 (.wpcN .nil ?_)
   obtain ⟨u3, hu3⟩ := some_of_lt (l := (la ++ [zeroAm])) (i := la.length) (by first | omega | (simp; done) | (simp; omega))
   refine .wpcS (i := 7) (d := 159) (.pointer (some ⟨vBlock va2, vOff va2 + la.length * 23, none⟩)) (by kernel_rfl) rfl rfl rfl (fun Lx => .indexAddr (i := la.length) rfl rfl (Own.slOk hO4) (lt_of_some hu3) el23 sz40 rfl (.ops0 fun a ha => ⟨ha, rfl⟩)) ?_
   refine .wpcS (i := 9) (d := 160) (.pointer (some ⟨b3, 0 + 6, none⟩)) (by kernel_rfl) rfl rfl rfl (fun Lx => .fieldAddr rfl fo31_6 rfl (.ops0 fun a ha => ⟨ha, rfl⟩)) ?_
   refine At.wpcE [8, 10] (by kernel_rfl) (by kernel_rfl) (.cons [9] rfl (by kernel_rfl) ?_ (.cons [7] rfl (by kernel_rfl) ?_ .nil))
   ·skip
    refine At.storeRow (f := Am.cs) (i := la.length) (off := 0) tm11 rfl rfl hO4 hu3 (fun u hu => (((all_app (Q := fun u => AmOk w40 u) (Xs.ok hXa) (mem1 (Q := fun u => AmOk w40 u) (((zeroAm_ok _)).keep (Below.refl _ _))))) u hu).size) (by omega) (sz40.trans (congrArg some ((Xs.one hx11)).size.symm)) (splice_all (((((all_app (Q := fun u => AmOk w40 u) (Xs.ok hXa) (mem1 (Q := fun u => AmOk w40 u) (((zeroAm_ok _)).keep (Below.refl _ _))))) u3 (List.mem_of_getElem? hu3))).size.trans ((Xs.one hx11)).size.symm)).symm (by show 0 + tm11.cs.size ≤ 23; rw [((Xs.one hx11)).size]; decide) ((Xs.one hx11)).one (fun w41 hO5 hA5 => ?_)
    replace hb0 := hA5.old hb0 (hO4.neT hb0 rfl)
    replace hb1 := hA5.old hb1 (hO4.neT hb1 rfl)
    replace hb2 := hA5.old hb2 (hO4.neT hb2 rfl)
    replace hb3 := hA5.old hb3 (hO4.neT hb3 rfl)
    replace hb11 := hA5.old hb11 (hO4.neT hb11 rfl)
    replace hXa := Xs.app hXa hA5 (.inr (by simp))
    replace hXk := Xs.app hXk hA5 (.inr (by simp))
    replace hx11 := Xs.app hx11 hA5 (.inr (by simp))
    replace hR := hR.appF hA5 (fun g hg => .inr (ghO4 g hg))
    refine .ops0 ?_
    refine At.wpcN (.cons rfl rfl rfl rfl (fun Lx => ?_) .nil) ?_
    ·skip
     exact .fieldAddr rfl fo31_6 rfl (.ops0 fun a ha => ⟨ha, rfl⟩)
    refine At.wpcE [10] (by kernel_rfl) (by kernel_rfl) (.cons [] rfl (by kernel_rfl) ?_ .nil)
    refine At.store1 rfl rfl hb3 sz23 (by simp) (hO5).one (fun w42 S12 => ?_)
    replace hb0 := S12.other hb0 n_b0_b3
    replace hb1 := S12.other hb1 n_b1_b3
    replace hb2 := S12.other hb2 n_b2_b3
    replace hb11 := S12.other hb11 n_b3_b11.symm
    replace hO5 := hO5.set S12 (hO5.neT hb3 rfl)
    replace hXa := Xs.set hXa S12 (by simp)
    replace hXk := Xs.set hXk S12 (by simp)
    replace hx11 := Xs.set hx11 S12 (by simp)
    replace hb3 : w42.heap[b3]? = some (.cells #[.int .i64 14, .int .i64 ((nx en ts).a), .string (bs x5.t), zS, zI, (.slice (some ⟨b11, 0, none⟩) 1 1), va2, zI, zS, zI, zN, zN, zI, zN, zI, zI, zS, zI, zN, zN, zI] 31) := S12.new
    replace hR := hR.setF S12 (.inr gb3)
    refine .ops0 (.wpcN .nil (.wpcZ (.inN (.thenN ?_))))
    exact fun act_ hact_ => ⟨(us11, vr11, (f - 1), va2, (la ++ [tm11]), (xa ++ [x11])), hact_.sub (sC rfl (sC rfl (sC rfl sN))), ⟨hR, hb0, hb1, hb2, hb3, hb11, (by have q := hO5; rw [set_snoc] at q; exact q), (Xs.append (Xs.weaken (M' := [Value.ownBlock va2, some b0, some b1, some b2, some b3, some b11]) hXa (SubM.cons (.head _) (SubM.cons (.tail _ (.tail _ (.tail _ (.tail _ (.tail _ (.head _)))))) (SubM.cons (.tail _ (.tail _ (.tail _ (.tail _ (.tail _ (.tail _ (.head _))))))) (SubM.cons (.tail _ (.tail _ (.tail _ (.tail _ (.tail _ (.tail _ (.tail _ (.head _)))))))) (SubM.cons (.tail _ (.tail _ (.tail _ (.tail _ (.tail _ (.tail _ (.tail _ (.tail _ (.head _))))))))) (SubM.cons (.tail _ (.tail _ (.tail _ (.tail _ (.tail _ (.tail _ (.tail _ (.tail _ (.tail _ (.head _)))))))))) SubM.nil))))))) (Xs.weaken (M' := [Value.ownBlock va2, some b0, some b1, some b2, some b3, some b11]) hx11 (SubM.cons (.head _) (SubM.cons (.tail _ (.tail _ (.head _))) (SubM.cons (.tail _ (.tail _ (.tail _ (.head _)))) (SubM.cons (.tail _ (.tail _ (.tail _ (.tail _ (.head _))))) (SubM.cons (.tail _ (.tail _ (.tail _ (.tail _ (.tail _ (.head _)))))) (SubM.cons (.tail _ (.tail _ (.tail _ (.tail _ (.tail _ (.tail _ (.head _))))))) SubM.nil)))))))), (Xs.weaken (M' := [Value.ownBlock va2, some b0, some b1, some b2, some b3, some b11]) hXk (SubM.cons (.head _) (SubM.cons (.tail _ (.tail _ (.tail _ (.tail _ (.tail _ (.head _)))))) (SubM.cons (.tail _ (.tail _ (.tail _ (.tail _ (.tail _ (.tail _ (.head _))))))) (SubM.cons (.tail _ (.tail _ (.tail _ (.tail _ (.tail _ (.tail _ (.tail _ (.head _)))))))) (SubM.cons (.tail _ (.tail _ (.tail _ (.tail _ (.tail _ (.tail _ (.tail _ (.tail _ (.head _))))))))) (SubM.cons (.tail _ (.tail _ (.tail _ (.tail _ (.tail _ (.tail _ (.tail _ (.tail _ (.tail _ (.head _)))))))))) SubM.nil))))))), (hts11), (by obtain ⟨q, rfl⟩ : ∃ q, f = q + 1 := ⟨f - 1, by omega⟩; rw [hs, clausesP]; simp only [smB, hc1, hc2, hc3, hc4, hc5, hc6, hc7, hc8, hq5, hq6, hq7, hq8, hq11, cond_true, PR.bind_ok]; rfl), (by have := hln; have := tail_len (is_len hc8); have := PR.Sh.of (clause_sh hxs false us.tail) hq11; omega), (ghO4), (MAL.snoc hTa hmt11), (by have := hln; have := tail_len (is_len hc8); have := PR.Sh.of (clause_sh hxs false us.tail) hq11; simp; omega)⟩, by first | omega | (dsimp only; omega)⟩
   refine At.store1 rfl rfl hb3 sz23 (by simp) (hO4).one (fun w43 S13 => ?_)
   replace hb0 := S13.other hb0 n_b0_b3
   replace hb1 := S13.other hb1 n_b1_b3
   replace hb2 := S13.other hb2 n_b2_b3
   replace hb11 := S13.other hb11 n_b3_b11.symm
   replace hO4 := hO4.set S13 (hO4.neT hb3 rfl)
   replace hXa := Xs.set hXa S13 (by simp)
   replace hXk := Xs.set hXk S13 (by simp)
   replace hx11 := Xs.set hx11 S13 (by simp)
   replace hb3 : w43.heap[b3]? = some (.cells #[.int .i64 14, .int .i64 ((nx en ts).a), .string (bs x5.t), zS, zI, (.slice (some ⟨b11, 0, none⟩) 1 1), va2, zI, zS, zI, zN, zN, zI, zN, zI, zI, zS, zI, zN, zN, zI] 31) := S13.new
   replace hR := hR.setF S13 (.inr gb3)
   refine .ops0 ?_
   refine At.wpcN (.cons rfl rfl rfl rfl (fun Lx => ?_) .nil) ?_
   ·skip
    exact .indexAddr (i := la.length) rfl rfl (Own.slOk hO4) (lt_of_some hu3) el23 sz40 rfl (.ops0 fun a ha => ⟨ha, rfl⟩)
   refine At.wpcE [8] (by kernel_rfl) (by kernel_rfl) (.cons [] rfl (by kernel_rfl) ?_ .nil)
   refine At.storeRow (f := Am.cs) (i := la.length) (off := 0) tm11 rfl rfl hO4 hu3 (fun u hu => (((all_app (Q := fun u => AmOk w43 u) (Xs.ok hXa) (mem1 (Q := fun u => AmOk w43 u) (((zeroAm_ok _)).keep (Below.refl _ _))))) u hu).size) (by omega) (sz40.trans (congrArg some ((Xs.one hx11)).size.symm)) (splice_all (((((all_app (Q := fun u => AmOk w43 u) (Xs.ok hXa) (mem1 (Q := fun u => AmOk w43 u) (((zeroAm_ok _)).keep (Below.refl _ _))))) u3 (List.mem_of_getElem? hu3))).size.trans ((Xs.one hx11)).size.symm)).symm (by show 0 + tm11.cs.size ≤ 23; rw [((Xs.one hx11)).size]; decide) ((Xs.one hx11)).one (fun w44 hO6 hA6 => ?_)
   replace hb0 := hA6.old hb0 (hO4.neT hb0 rfl)
   replace hb1 := hA6.old hb1 (hO4.neT hb1 rfl)
   replace hb2 := hA6.old hb2 (hO4.neT hb2 rfl)
   replace hb3 := hA6.old hb3 (hO4.neT hb3 rfl)
   replace hb11 := hA6.old hb11 (hO4.neT hb11 rfl)
   replace hXa := Xs.app hXa hA6 (.inr (by simp))
   replace hXk := Xs.app hXk hA6 (.inr (by simp))
   replace hx11 := Xs.app hx11 hA6 (.inr (by simp))
   replace hR := hR.appF hA6 (fun g hg => .inr (ghO4 g hg))
   refine .ops0 (.wpcN .nil (.wpcZ (.inN (.thenN ?_))))
   exact fun act_ hact_ => ⟨(us11, vr11, (f - 1), va2, (la ++ [tm11]), (xa ++ [x11])), hact_.sub (sC rfl (sC rfl (sC rfl sN))), ⟨hR, hb0, hb1, hb2, hb3, hb11, (by have q := hO6; rw [set_snoc] at q; exact q), (Xs.append (Xs.weaken (M' := [Value.ownBlock va2, some b0, some b1, some b2, some b3, some b11]) hXa (SubM.cons (.head _) (SubM.cons (.tail _ (.tail _ (.tail _ (.tail _ (.tail _ (.head _)))))) (SubM.cons (.tail _ (.tail _ (.tail _ (.tail _ (.tail _ (.tail _ (.head _))))))) (SubM.cons (.tail _ (.tail _ (.tail _ (.tail _ (.tail _ (.tail _ (.tail _ (.head _)))))))) (SubM.cons (.tail _ (.tail _ (.tail _ (.tail _ (.tail _ (.tail _ (.tail _ (.tail _ (.head _))))))))) (SubM.cons (.tail _ (.tail _ (.tail _ (.tail _ (.tail _ (.tail _ (.tail _ (.tail _ (.tail _ (.head _)))))))))) SubM.nil))))))) (Xs.weaken (M' := [Value.ownBlock va2, some b0, some b1, some b2, some b3, some b11]) hx11 (SubM.cons (.head _) (SubM.cons (.tail _ (.tail _ (.head _))) (SubM.cons (.tail _ (.tail _ (.tail _ (.head _)))) (SubM.cons (.tail _ (.tail _ (.tail _ (.tail _ (.head _))))) (SubM.cons (.tail _ (.tail _ (.tail _ (.tail _ (.tail _ (.head _)))))) (SubM.cons (.tail _ (.tail _ (.tail _ (.tail _ (.tail _ (.tail _ (.head _))))))) SubM.nil)))))))), (Xs.weaken (M' := [Value.ownBlock va2, some b0, some b1, some b2, some b3, some b11]) hXk (SubM.cons (.head _) (SubM.cons (.tail _ (.tail _ (.tail _ (.tail _ (.tail _ (.head _)))))) (SubM.cons (.tail _ (.tail _ (.tail _ (.tail _ (.tail _ (.tail _ (.head _))))))) (SubM.cons (.tail _ (.tail _ (.tail _ (.tail _ (.tail _ (.tail _ (.tail _ (.head _)))))))) (SubM.cons (.tail _ (.tail _ (.tail _ (.tail _ (.tail _ (.tail _ (.tail _ (.tail _ (.head _))))))))) (SubM.cons (.tail _ (.tail _ (.tail _ (.tail _ (.tail _ (.tail _ (.tail _ (.tail _ (.tail _ (.head _)))))))))) SubM.nil))))))), (hts11), (by obtain ⟨q, rfl⟩ : ∃ q, f = q + 1 := ⟨f - 1, by omega⟩; rw [hs, clausesP]; simp only [smB, hc1, hc2, hc3, hc4, hc5, hc6, hc7, hc8, hq5, hq6, hq7, hq8, hq11, cond_true, PR.bind_ok]; rfl), (by have := hln; have := tail_len (is_len hc8); have := PR.Sh.of (clause_sh hxs false us.tail) hq11; omega), (ghO4), (MAL.snoc hTa hmt11), (by have := hln; have := tail_len (is_len hc8); have := PR.Sh.of (clause_sh hxs false us.tail) hq11; simp; omega)⟩, by first | omega | (dsimp only; omega)⟩
  refine .exit (.thenE (.thenE (.inE (.thenN (.region (.load rfl (Ld.ownCell ag98 hb1 rfl) rfl ?_))))))
  refine At.buildSlice (xs := [.const (.string (⟨#[125]⟩ : ByteArray))]) rfl rfl el25 sz9 ze9 (by intro v hv; simp only [List.mem_cons, List.not_mem_nil, or_false] at hv; rcases hv with rfl <;> first | rfl | simp [Value.cells]) rfl (by decide) rfl (fun b17 w45 F17 => ?_)
  have n_b0_b17 := F17.ne' hb0
  replace hb0 := F17.old hb0
  replace hb1 := F17.old hb1
  replace hb2 := F17.old hb2
  replace hb3 := F17.old hb3
  replace hb11 := F17.old hb11
  replace hOl := hOl.fresh F17
  replace hXa := Xs.fresh hXa F17
  replace hXk := Xs.fresh hXk F17
  have hb17 : w45.heap[b17]? = some (.cells #[.string (⟨#[125]⟩ : ByteArray)] 9) := F17.new
  replace hR := hR.freshF F17
  replace hB := Fr.below hR hB0 hB0.size hSge
  refine At.call en78 rfl rfl (ptext_any us vr (.slice (some ⟨b17, 0, none⟩) 1 1) ([(⟨#[125]⟩ : ByteArray)]) _ hB hSge hus hb0 ((StrsAt.own (ss := [(⟨#[125]⟩ : ByteArray)]) hb17 rfl (by decide) : StrsAt _ (.slice (some ⟨b17, 0, none⟩) 1 1) [(⟨#[125]⟩ : ByteArray)])) (fun _ => show b17 ≠ b0 from n_b0_b17.symm) (PR.sub hg (by rw [exprS]; simp only [hc1, cond_false]; obtain ⟨q, rfl⟩ : ∃ q, f = q + 1 := ⟨f - 1, by omega⟩; rw [hs, clausesP]; (try simp only [exprS, exB, SB, hc1, hc2, hc3, hc4, hc5, hc6, hc7, hc8, hq5, hq6, hq7, hq8]); repeat constructor))) (fun e wp12 hR' => ?_)
  obtain ⟨x12, us12, val12, vr12, hq12, rfl, hF12, hts12, hbo12, ho12⟩ := hR'
  refine ⟨_, rfl, ?_⟩
  replace hb1 := Fr.oldB hF12 hb1 (n_b0_b1.symm)
  replace hb2 := Fr.oldB hF12 hb2 (n_b0_b2.symm)
  replace hb3 := Fr.oldB hF12 hb3 (n_b0_b3.symm)
  replace hb11 := Fr.oldB hF12 hb11 (n_b0_b11.symm)
  replace hOl := OwnR.frB hOl hF12 hb0 rfl
  replace hXa := Xs.frS hXa hF12 (by rintro k rfl; simp)
  replace hXk := Xs.frS hXk hF12 (by rintro k rfl; simp)
  replace hb0 := hbo12
  have hsz12 := hR.size
  replace hR := Fr.then hR hF12 (fun k hk => .inl hk)
  obtain rfl := ho12
  refine .ops0 (.inN (.thenN (.seq (.region (.load rfl (Ld.own (C := #[.int .i64 14, .int .i64 ((nx en ts).a), .string (bs x5.t), zS, zI, (.slice (some ⟨b11, 0, none⟩) 1 1), va, zI, zS, zI, zN, zN, zI, zN, zI, zI, zS, zI, zN, zN, zI]) ag31 sz31 hb3) rfl ?_)))))
  refine At.storeAll rfl rfl hb2 sz31 rfl (by first | (simp [Value.oneCell', (hOl).one, ((SlOk.nil)).one]; done) | (simp only [List.all_toArray, List.all_cons, List.all_nil, (hOl).one, ((SlOk.nil)).one, Bool.and_true, Bool.true_and] <;> rfl)) (fun w46 S14 => ?_)
  replace hb0 := S14.other hb0 n_b0_b2
  replace hb1 := S14.other hb1 n_b1_b2
  replace hb11 := S14.other hb11 n_b2_b11.symm
  replace hOl := hOl.set S14 (hOl.neT hb2 rfl)
  replace hXa := Xs.set hXa S14 (by simp)
  replace hXk := Xs.set hXk S14 (by simp)
  replace hb2 : w46.heap[b2]? = some (.cells #[.int .i64 14, .int .i64 ((nx en ts).a), .string (bs x5.t), zS, zI, (.slice (some ⟨b11, 0, none⟩) 1 1), va, zI, zS, zI, zN, zN, zI, zN, zI, zI, zS, zI, zN, zN, zI] 31) := S14.new
  replace hR := hR.setF S14 (.inr gb2)
  refine .ops0 (.thenN (.retc ?_))
  refine At.doneDR en85 (fun u => expr1_any _ u _ hb0 hb1) (fun w9 hK => ?_)
  obtain ⟨hb0n, hF9⟩ := hK
  replace hb2 := Fr.oldB hF9 hb2 (n_b0_b2.symm)
  replace hb11 := Fr.oldB hF9 hb11 (n_b0_b11.symm)
  replace hOl := OwnR.frB hOl hF9 hb0 rfl
  replace hXa := Xs.frS hXa hF9 (by rintro k rfl; simp)
  replace hXk := Xs.frS hXk hF9 (by rintro k rfl; simp)
  rw [wrap_sub (by omega)] at hb0n
  replace hb0 := hb0n
  replace hR := Fr.then hR hF9 (fun k hk => .inl hk)
  refine ⟨_, ResV.cell rfl (Ld.own (C := #[.int .i64 14, .int .i64 ((nx en ts).a), .string (bs x5.t), zS, zI, (.slice (some ⟨b11, 0, none⟩) 1 1), va, zI, zS, zI, zN, zN, zI, zN, zI, zI, zS, zI, zN, zN, zI]) ag31 sz31 hb2) ResV.nil, ?_⟩
  exact RetP.ok (x := (ST.mk 14 ((nx en ts).a) (bs x5.t) (⟨#[]⟩ : ByteArray) 0 [x6] xa)) (by rw [exprS]; simp only [hc1, cond_false]; obtain ⟨q, rfl⟩ : ∃ q, f = q + 1 := ⟨f - 1, by omega⟩; rw [hs, clausesP]; simp only [exprS, exB, SB, hc1, hc2, hc3, hc4, hc5, hc6, hc7, hc8, hq5, hq6, hq7, hq8, hq12] <;> rfl) hR hts12 hb0 ⟨(tmA 14 ((nx en ts).a) (bs x5.t) (⟨#[]⟩ : ByteArray) 0 (.slice (some ⟨b11, 0, none⟩) 1 1) [tm6] va la), rfl, (tmA_ok (rows_tm (m := 1) hb11 (mem1 (Q := fun u => TmOk w9 u) (((Xs.one hXk)).keep (Below.refl _ _))) rfl (by decide)) (Xs.ok (Xs.cons (Xs.weaken (M' := []) hXk SubM.nil) (Xs.nil _ _ _))) (OwnR.rows hOl (fun u hu => (((Xs.ok hXa)) u hu).size)) (Xs.ok (Xs.weaken (M' := []) hXa SubM.nil))), (MT.made (k := 14) (a := (nx en ts).a) (nm := (bs x5.t)) (pm := (⟨#[]⟩ : ByteArray)) (n := 0) (MTL.one hmt6) hTa (fun _ => gb11) (fun hn => OwnR.vbGe hOl gOl hn))⟩
 refine .seq (.region (.load rfl (Ld.ownCell ag98 hb1 rfl) rfl ?_))
 have hml13 : MLt w22.heap.size [some b0, some b1, some b2, some b3, some b4, some b5, some b7, some b8, some b9, some b10] := (MLt.blk hb0 (MLt.blk hb1 (MLt.blk hb2 (MLt.blk hb3 (MLt.blk hb4 (MLt.blk hb5 (MLt.blk hb7 (MLt.blk hb8 (MLt.blk hb9 (MLt.blk hb10 (MLt.nil _)))))))))))
 refine At.call en92 rfl rfl (assign_any ts v ex _ hB hSge hts hb0 (hbig) hxs (hex hdp) (PR.sub hg (by (try simp only [exprS, exB, SB, hc1, hc2, hc3, hc4, hc5, hc6, hc7]); repeat constructor))) (fun e wp13 hR' => ?_)
 obtain ⟨x13, us13, val13, vr13, hq13, rfl, hF13, hts13, hbo13, ho13⟩ := hR'
 refine ⟨_, rfl, ?_⟩
 replace hb1 := Fr.oldB hF13 hb1 (n_b0_b1.symm)
 replace hb2 := Fr.oldB hF13 hb2 (n_b0_b2.symm)
 replace hb0 := hbo13
 have hsz13 := hR.size
 replace hR := Fr.then hR hF13 (fun k hk => .inl hk)
 obtain ⟨tm13, rfl, htm13, hmt13⟩ := ho13
 have hx13 := Xs.of_new (B := 0) (M := [some b0, some b1, some b2, some b3, some b4, some b5, some b7, some b8, some b9, some b10]) (K := kTm) htm13 (fun b hb => .inr (hmt13.blk b hb)) (fun _ _ => Nat.zero_le _) hml13
 replace hmt13 := hmt13.mono hsz13
 refine At.storeAll rfl rfl hb2 (sz31.trans (congrArg some ((Xs.one hx13)).size.symm)) ((Xs.one hx13)).size.symm ((Xs.one hx13)).one (fun w47 S15 => ?_)
 replace hb0 := S15.other hb0 n_b0_b2
 replace hb1 := S15.other hb1 n_b1_b2
 replace hx13 := Xs.set hx13 S15 (by simp)
 replace hb2 : w47.heap[b2]? = some (.cells tm13.cs 31) := S15.new
 replace hR := hR.setF S15 (.inr gb2)
 refine .ops0 (.thenN (.retc (.inR (.thenR ?_))))
 refine At.doneDR en85 (fun u => expr1_any _ u _ hb0 hb1) (fun w9 hK => ?_)
 obtain ⟨hb0n, hF9⟩ := hK
 replace hb2 := Fr.oldB hF9 hb2 (n_b0_b2.symm)
 replace hx13 := Xs.frS hx13 hF9 (by rintro k rfl; simp)
 rw [wrap_sub (by omega)] at hb0n
 replace hb0 := hb0n
 replace hR := Fr.then hR hF9 (fun k hk => .inl hk)
 refine ⟨_, ResV.cell rfl (Ld.own ag31 (sz31.trans (congrArg some ((Xs.one hx13)).size.symm)) hb2) ResV.nil, ?_⟩
 exact RetP.ok (x := x13) (by simp only [exprS, exB, SB, hc1, hc2, hc3, hc4, hc5, hc6, hc7, hq13] <;> rfl) hR hts13 hb0 ⟨tm13, rfl, (Xs.one hx13), hmt13⟩
theorem expr_any (en : Int) : ∀ (n : Nat) (dp : Int), dp + ((n : Nat) : Int) = 201 → 0 ≤ dp → ExC en dp (exprP en n) := by
  intro n
  induction n with
  | zero =>
    intro dp h h0 wB b0 ts v w h1 h2 h3 h4 h5 h6
    have := expr_step ts v (fun _ => .bad 0 0) w h1 h2 h3 h4 h5 (fun _ => trivial) ⟨h0, by omega⟩ (fun hd => absurd hd (by omega)) (by rw [exprP_eq (n := 0) h]; exact h6)
    rw [exprP_eq (n := 0) h] at this
    exact this
  | succ n ih =>
    intro dp h h0 wB b0 ts v w h1 h2 h3 h4 h5 h6
    have := expr_step ts v (exprP en n) w h1 h2 h3 h4 h5 (expr_sh en n) ⟨h0, by omega⟩ (fun _ => ih (dp + 1) (by omega) (by omega)) (by rw [exprP_eq (n := n + 1) h]; exact h6)
    rw [exprP_eq (n := n + 1) h] at this
    exact this
mutual
def dS : ST → Nat
  | .mk _ _ _ _ _ kids arms => 1 + max (dSL kids) (dSA arms)
def dSL : List ST → Nat
  | [] => 0
  | t :: r => max (dS t) (dSL r)
def dSA : List SA → Nat
  | [] => 0
  | .mk _ _ b :: r => max (dS b) (dSA r)
end
def SA.body : SA → ST | .mk _ _ b => b
theorem dSL_snoc (l : List ST) (x : ST) : dSL (l ++ [x]) = max (dSL l) (dS x) := by
  induction l with
  | nil => simp [dSL]
  | cons a l ih => simp only [List.cons_append, dSL, ih]; omega
theorem dSA_snoc (l : List SA) (x : SA) : dSA (l ++ [x]) = max (dSA l) (dS x.body) := by
  induction l with
  | nil => cases x; simp [dSA, SA.body]
  | cons a l ih => cases a; simp only [List.cons_append, dSA, ih]; omega
theorem dS_pos (t : ST) : 1 ≤ dS t := by cases t; rw [dS]; omega
theorem dS_eq (t : Tm) : dS (shT t) = 1 + max (dSL (t.kids.map shT)) (dSA (t.arms.map shAm)) := by rw [shT_eq, dS]
theorem take_snoc {α β : Type} {l : List α} {f : α → β} {k : Nat} {u : α} (h : l[k]? = some u) : (l.take (k + 1)).map f = (l.take k).map f ++ [f u] := by
  rw [List.take_add_one, h]; simp
theorem kid_next {t : Tm} {k : Nat} {u : Tm} (h : t.kids[k]? = some u) : dSL ((t.kids.take (k + 1)).map shT) = max (dSL ((t.kids.take k).map shT)) (dS (shT u)) := by rw [take_snoc h, dSL_snoc]
theorem arm_next {t : Tm} {k : Nat} {u : Am} (h : t.arms[k]? = some u) : dSA ((t.arms.take (k + 1)).map shAm) = max (dSA ((t.arms.take k).map shAm)) (dS (shT u.body)) := by rw [take_snoc h, dSA_snoc]; rfl
theorem max_lit (a b : Nat) : (if (a : Int) < (b : Int) then (b : Int) else (a : Int)) = ((max a b : Nat) : Int) := by split <;> omega
theorem At.maxI {P : Program} {N : Nat} {ds : List Deferred} {L : List (Nat × Value)} {w : World} {ops : Array Oper} {Q : Exit → Act → World → Prop} {rest : List Oper} {d : Nat} {ty : TypeId} {pos : String} {aft : Array Edge} {x y : Operand} {t t' : TypeId} {q q' : IntKind} {m n : Int}
    (hx : ev L x = some (.int q m)) (hy : ev L y = some (.int q' n)) (hN : Nat.blt d N = true) (k : At N ds ((d, .int q (if m < n then n else m)) :: L) (wpList P ops Q rest) w) :
    At N ds L (wpList P ops Q (⟨some d, .call ⟨.builtin .max, #[x, y], #[t, t']⟩, ty, pos, aft, none⟩ :: rest)) w :=
  At.op rfl rfl hN (fun a ha => by
    simp only [execOp, resolve, invoke, builtin, Sem.run_bind, Sem.run_pure, Result.andThen_ok, List.map_toArray, List.map_cons, List.map_nil, ha.ev hx, ha.ev hy]
    have : (Builtin.max_ #[t, t'] ty #[Value.int q m, Value.int q' n]).run P w = .ok (.int q (if m < n then n else m)) w := by simp [Builtin.max_, Builtin.max2]; try (split <;> simp)
    rw [this]; rfl) k
def mkPr (ev dv : Value) (effs : List Eff) (dats : List Dat) (t : Tm) : Pr := { cs := #[ev, dv] ++ t.cs, ev := ev, dv := dv, effs := effs, dats := dats, body := t }
theorem mkPr_ok {w : World} {ev dv : Value} {effs : List Eff} {dats : List Dat} {t : Tm} (h1 : RowsAt w ev 2 (effs.map Eff.cs)) (h2 : RowsAt w dv 2 (dats.map Dat.cs)) (h3 : ∀ e ∈ effs, EffOk w e) (h4 : ∀ d ∈ dats, DatOk w d) (h5 : TmOk w t) : PrOk w (mkPr ev dv effs dats t) := by
  have hs := h5.size
  refine ⟨by simp [mkPr, hs], ?_, by show (#[ev, dv] ++ t.cs)[0]? = _; rw [Array.getElem?_append_left (by simp)]; rfl, by show (#[ev, dv] ++ t.cs)[1]? = _; rw [Array.getElem?_append_left (by simp)]; rfl, h1, h2, h3, h4, ?_, h5⟩
  · have ho := h5.one
    show (#[ev, dv] ++ t.cs).all (·.oneCell') = true
    rw [Array.all_append, ho]
    simp [h1.ok.one, h2.ok.one]
  · show (#[ev, dv] ++ t.cs).extract 2 (2 + 21) = t.cs
    apply Array.ext'
    simp [Array.toList_extract, List.extract]
    rw [List.take_of_length_le (by rw [Array.length_toList]; omega)]
def prBlk (p : Pr) (b : Nat) : Prop := (p.effs ≠ [] ∧ b = vBlock p.ev) ∨ (p.dats ≠ [] ∧ b = vBlock p.dv) ∨ (∃ x ∈ p.effs, kEff.blk x b) ∨ (∃ x ∈ p.dats, kDat.blk x b) ∨ tmBlk p.body b
def kPr : Kd Pr := ⟨PrOk, prBlk, fun h hb => by
  rcases hb with ⟨h1, rfl⟩ | ⟨h1, rfl⟩ | ⟨x, h1, h2⟩ | ⟨x, h1, h2⟩ | h1
  · exact h.effsAt.blkLt (by decide) h1
  · exact h.datsAt.blkLt (by decide) h1
  · exact kEff.lt (h.effOk x h1) h2
  · exact kDat.lt (h.datOk x h1) h2
  · exact kTm.lt h.bodyOk h1, fun h hb =>
  { h with
    effsAt := h.effsAt.keepB fun hn => hb _ (.inl ⟨map_ne hn, rfl⟩)
    datsAt := h.datsAt.keepB fun hn => hb _ (.inr (.inl ⟨map_ne hn, rfl⟩))
    effOk := fun x hx => kEff.keep (h.effOk x hx) fun b h1 => hb b (.inr (.inr (.inl ⟨x, hx, h1⟩)))
    datOk := fun x hx => kDat.keep (h.datOk x hx) fun b h1 => hb b (.inr (.inr (.inr (.inl ⟨x, hx, h1⟩))))
    bodyOk := kTm.keep h.bodyOk fun b h1 => hb b (.inr (.inr (.inr (.inr h1)))) }⟩
def rE (w : World) (x : SEff) (t : Eff) : Prop := shEff t = x ∧ ∀ b, kEff.blk t b → w.heap.size ≤ b
def rD (w : World) (x : SDat) (t : Dat) : Prop := shDat t = x ∧ ∀ b, kDat.blk t b → w.heap.size ≤ b
def okP (w : World) (x : SPr) (val : Value) (w' : World) : Prop := ∃ p : Pr, val = .agg p.cs ∧ PrOk w' p ∧ shPr p = x ∧ plT p.body ∧ ∀ b, prBlk p b → w.heap.size ≤ b
theorem okP_made {w w' : World} {ev dv : Value} {effs : List Eff} {dats : List Dat} {t : Tm} {xe : List SEff} {xd : List SDat} {x : ST} (h1 : RowsAt w' ev 2 (effs.map Eff.cs)) (h2 : RowsAt w' dv 2 (dats.map Dat.cs)) (h3 : ∀ e ∈ effs, EffOk w' e) (h4 : ∀ d ∈ dats, DatOk w' d) (h5 : TmOk w' t)
    (h6 : All2 (rE w) xe effs) (h7 : All2 (rD w) xd dats) (h8 : MT w x t) (h9 : effs ≠ [] → w.heap.size ≤ vBlock ev) (h10 : dats ≠ [] → w.heap.size ≤ vBlock dv) : okP w ⟨xe, xd, x⟩ (.agg (mkPr ev dv effs dats t).cs) w' :=
  ⟨mkPr ev dv effs dats t, rfl, mkPr_ok h1 h2 h3 h4 h5, by
    show (⟨effs.map shEff, dats.map shDat, shT t⟩ : SPr) = _
    rw [All2.map (All2.mono h6 (fun x t h => h.1)), All2.map (All2.mono h7 (fun x t h => h.1)), h8.sh], h8.pl, fun b hb => by
    rcases hb with ⟨h, rfl⟩ | ⟨h, rfl⟩ | ⟨x, h, hb⟩ | ⟨x, h, hb⟩ | h
    · exact h9 h
    · exact h10 h
    · exact All2.all h6 (fun x t h => h.2) x h b hb
    · exact All2.all h7 (fun x t h => h.2) x h b hb
    · exact h8.blk b h⟩
theorem At.doneRet {P : Program} {N : Nat} {fn : Func} {R : Ending → World → Prop} {w : World} {L : List (Nat × Value)} {f : FuncId} {cap : Array Value} {K : World → Prop} (hent : entB P f = true)
    (hd : CallsD P f cap .returning w fun e u' w' => u' = .returning ∧ ((∃ v, e = .returned v) ∧ K w'))
    (k : ∀ w', K w' → ∃ vs, ResV P L w' fn.results.toList vs ∧ R (.returned (resOf vs)) w') : At N [{ target := .fn (.func f) cap, args := #[] }] L (bodyPostD P fn R .ret) w := fun a ha => by
  show Leaves _ _ _ _ a.defers _ _
  rw [ha.defers]
  refine leaves_one (.inl rfl) hent hd (fun w' hK => ?_)
  obtain ⟨vs, h1, h2⟩ := k w' hK
  exact ⟨_, run_results ha h1, h2⟩
def zT : ST := .mk 0 0 E0B E0B 0 [] []
def zP : SPr := ⟨[], [], zT⟩
def parseR (l : List UInt8) : Option SPr × Int × Int :=
  if lexE l = 0 then
    match programP (l.length : Int) (lexT l) with
    | .ok x _ => if 200 < dS x.body then (none, 0, 6) else (some x, 0, 0)
    | .bad a c => (none, a, c)
  else (none, (lexA l : Int), lexE l)
end Go.Proofs.YtfoolfecjjngpaaGreat
namespace Go.Proofs
open Go.Shelf
def Tryz.lays137_ren : Go.Shelf.Ren := ⟨fun | 137 => 74 | 217 => 95 | 266 => 102 | n => n, fun | 9 => 9 | 5 => 5 | 3 => 3 | n => n, fun | n => n⟩
theorem Tryz.lays137 : Go.Proofs.Lays.n137 Tryz.prog Tryz.lays137_ren := {
  mixed := by kernel_rfl
  f137 := Tryz.func74.trans (congrArg some (by kernel_rfl))
  f217 := Tryz.func95.trans (congrArg some (by kernel_rfl))
  f266 := Tryz.func102.trans (congrArg some (by kernel_rfl))
  t3 := Tryz.underlying3
  a3 := Tryz.isAgg3
  z3 := Tryz.sizeOf3
  v3 := Tryz.zeroValue3
  t5 := Tryz.underlying5
  a5 := Tryz.isAgg5
  z5 := Tryz.sizeOf5
  v5 := Tryz.zeroValue5
  t9 := Tryz.underlying9
  a9 := Tryz.isAgg9
  z9 := Tryz.sizeOf9
  v9 := Tryz.zeroValue9 }
open Go.RowKit in
theorem Tryz.strings_IndexByte (s : ByteArray) (c : Int) (w : World) :
    Calls Tryz.prog 74 #[.string s, .int .u8 c] w fun e w' => e = .returned (.int .i64 (Lib.indexByte s.data.toList c.toNat.toUInt8)) ∧ w' = w := Any.strings_IndexByte Tryz.lays137 s c w
def Tryz.lays144_ren : Go.Shelf.Ren := ⟨fun | 144 => 68 | 143 => 93 | 219 => 101 | 217 => 95 | 225 => 106 | 224 => 107 | 267 => 108 | 266 => 102 | 314 => 111 | n => n, fun | 9 => 9 | 4 => 4 | 3 => 3 | 5 => 5 | 46 => 183 | 146 => 185 | 51 => 184 | n => n, fun | 1 => 0 | n => n⟩
theorem Tryz.lays144 : Go.Proofs.Lays.n144 Tryz.prog Tryz.lays144_ren := {
  mixed := by kernel_rfl
  f143 := Tryz.func93.trans (congrArg some (by kernel_rfl))
  f144 := Tryz.func68.trans (congrArg some (by kernel_rfl))
  f217 := Tryz.func95.trans (congrArg some (by kernel_rfl))
  f219 := Tryz.func101.trans (congrArg some (by kernel_rfl))
  f224 := Tryz.func107.trans (congrArg some (by kernel_rfl))
  f225 := Tryz.func106.trans (congrArg some (by kernel_rfl))
  f266 := Tryz.func102.trans (congrArg some (by kernel_rfl))
  f267 := Tryz.func108.trans (congrArg some (by kernel_rfl))
  f314 := Tryz.func111.trans (congrArg some (by kernel_rfl))
  t3 := Tryz.underlying3
  a3 := Tryz.isAgg3
  z3 := Tryz.sizeOf3
  v3 := Tryz.zeroValue3
  t4 := Tryz.underlying4
  a4 := Tryz.isAgg4
  z4 := Tryz.sizeOf4
  v4 := Tryz.zeroValue4
  t5 := Tryz.underlying5
  a5 := Tryz.isAgg5
  z5 := Tryz.sizeOf5
  v5 := Tryz.zeroValue5
  t9 := Tryz.underlying9
  a9 := Tryz.isAgg9
  z9 := Tryz.sizeOf9
  v9 := Tryz.zeroValue9
  t46 := Tryz.underlying183
  a46 := Tryz.isAgg183
  z46 := Tryz.sizeOf183
  v46 := Tryz.zeroValue183
  t51 := Tryz.underlying184
  a51 := Tryz.isAgg184
  z51 := Tryz.sizeOf184
  v51 := Tryz.zeroValue184
  t146 := Tryz.underlying185
  a146 := Tryz.isAgg185
  z146 := Tryz.sizeOf185
  v146 := Tryz.zeroValue185
  g1 := by kernel_rfl }
open Go.RowKit Go.Lib in
theorem Tryz.strings_Contains (s sub : ByteArray) (m : Int) (w : World) (hs : s.size < 4294967281) (hm : w.cell? ⟨0, 0, none⟩ = some (.int .i64 m)) :
    Calls Tryz.prog 68 #[.string s, .string sub] w fun e w' => e = .returned (.bool (Lib.contains s.data.toList sub.data.toList)) ∧ w' = w := Any.strings_Contains Tryz.lays144 s sub m w hs hm
def Tryz.lays99_ren : Go.Shelf.Ren := ⟨fun | 99 => 72 | 206 => 94 | n => n, fun | 9 => 9 | 4 => 4 | 3 => 3 | n => n, fun | n => n⟩
theorem Tryz.lays99 : Go.Proofs.Lays.n99 Tryz.prog Tryz.lays99_ren := {
  mixed := by kernel_rfl
  f99 := Tryz.func72.trans (congrArg some (by kernel_rfl))
  f206 := Tryz.func94.trans (congrArg some (by kernel_rfl))
  t3 := Tryz.underlying3
  a3 := Tryz.isAgg3
  z3 := Tryz.sizeOf3
  v3 := Tryz.zeroValue3
  t4 := Tryz.underlying4
  a4 := Tryz.isAgg4
  z4 := Tryz.sizeOf4
  v4 := Tryz.zeroValue4
  t9 := Tryz.underlying9
  a9 := Tryz.isAgg9
  z9 := Tryz.sizeOf9
  v9 := Tryz.zeroValue9 }
open Go.RowKit Go.Lib in
theorem Tryz.strings_HasPrefix (s p : ByteArray) (w : World) :
    Calls Tryz.prog 72 #[.string s, .string p] w fun e w' => e = .returned (.bool (Lib.hasPrefix s.data.toList p.data.toList)) ∧ w' = w := Any.strings_HasPrefix Tryz.lays99 s p w
end Go.Proofs
namespace Go.Proofs.YtfoolfecjjngpaaGreat
open Go.RowKit
theorem ag5 : aggB Tryz.prog 5 = some false := by kernel_rfl
theorem el74 : elemB Tryz.prog 74 = some 5 := by kernel_rfl
theorem en50 : entB Tryz.prog 50 = true := by kernel_rfl
theorem en52 : entB Tryz.prog 52 = true := by kernel_rfl
theorem en65 : entB Tryz.prog 65 = true := by kernel_rfl
theorem en66 : entB Tryz.prog 66 = true := by kernel_rfl
theorem en67 : entB Tryz.prog 67 = true := by kernel_rfl
theorem en68 : entB Tryz.prog 68 = true := by kernel_rfl
theorem en73 : entB Tryz.prog 73 = true := by kernel_rfl
theorem en74 : entB Tryz.prog 74 = true := by kernel_rfl
theorem en75 : entB Tryz.prog 75 = true := by kernel_rfl
theorem fo141_2 : fieldB Tryz.prog 141 2 = some (2, 1) := by kernel_rfl
theorem ik3 : intKB Tryz.prog 3 = some .i64 := by kernel_rfl
theorem ik5 : intKB Tryz.prog 5 = some .u8 := by kernel_rfl
theorem st9 : strB Tryz.prog 9 = true := by kernel_rfl
theorem sz5 : sizeB Tryz.prog 5 = some 1 := by kernel_rfl
theorem digit_any (u : UInt8) (w : World)  :
  Calls Tryz.prog 50 ([.int .u8 (u.toNat : Int)] : List Value).toArray w fun e w' => e = .returned (.bool (digB u)) ∧ w = w' := by
 refine At.enter (N := 9) Tryz.func50 rfl rfl (by simp) [(0, .int .u8 (u.toNat : Int))] (by simp) ?_
 refine .seq (.region (.assign rfl rfl (.ops0 (.thenN (.seq (.region (.move rfl rfl (.geq rfl rfl rfl (.move rfl rfl ?_)))))))))
 refine At.cases (decide (48 ≤ (u.toNat : Int))) (fun hg1 => ?_) (fun hg1 => ?_)
 ·skip
  refine .set (d := 5) (u := .bool true) rfl (congrArg Value.bool hg1) ?_
  have hg1' := of_decide_eq_true hg1
  refine .yes rfl rfl rfl rfl (.move rfl rfl (.yes rfl rfl rfl rfl (.leq rfl rfl rfl (.pickT rfl rfl rfl (.assign rfl rfl (.ops0 (.thenN (.retc (.doneR (ResV.tmp rfl ResV.nil) ?_)))))))))
  exact ⟨congrArg Ending.returned (congrArg Value.bool (Eq.symm (by first | rfl | (simp only [digB, hg1, Bool.true_or, Bool.or_true, Bool.false_or, Bool.or_false, Bool.true_and, Bool.and_true, Bool.false_and, Bool.and_false])))), rfl⟩
 refine .set (d := 5) (u := .bool false) rfl (congrArg Value.bool hg1) ?_
 have hg1' := of_decide_eq_false hg1
 refine .no rfl rfl rfl rfl rfl rfl rfl (.no rfl rfl rfl rfl rfl rfl rfl (.pickF rfl rfl rfl (.assign rfl rfl (.ops0 (.thenN (.retc (.doneR (ResV.tmp rfl ResV.nil) ?_)))))))
 exact ⟨congrArg Ending.returned (congrArg Value.bool (Eq.symm (by first | rfl | (simp only [digB, hg1, Bool.true_or, Bool.or_true, Bool.false_or, Bool.or_false, Bool.true_and, Bool.and_true, Bool.false_and, Bool.and_false])))), rfl⟩
theorem large_any (u : UInt8) (w : World)  :
  Calls Tryz.prog 66 ([.int .u8 (u.toNat : Int)] : List Value).toArray w fun e w' => e = .returned (.bool (largB u)) ∧ w = w' := by
 refine At.enter (N := 9) Tryz.func66 rfl rfl (by simp) [(0, .int .u8 (u.toNat : Int))] (by simp) ?_
 refine .seq (.region (.assign rfl rfl (.ops0 (.thenN (.seq (.region (.move rfl rfl (.geq rfl rfl rfl (.move rfl rfl ?_)))))))))
 refine At.cases (decide (65 ≤ (u.toNat : Int))) (fun hg1 => ?_) (fun hg1 => ?_)
 ·skip
  refine .set (d := 5) (u := .bool true) rfl (congrArg Value.bool hg1) ?_
  have hg1' := of_decide_eq_true hg1
  refine .yes rfl rfl rfl rfl (.move rfl rfl (.yes rfl rfl rfl rfl (.leq rfl rfl rfl (.pickT rfl rfl rfl (.assign rfl rfl (.ops0 (.thenN (.retc (.doneR (ResV.tmp rfl ResV.nil) ?_)))))))))
  exact ⟨congrArg Ending.returned (congrArg Value.bool (Eq.symm (by first | rfl | (simp only [largB, hg1, Bool.true_or, Bool.or_true, Bool.false_or, Bool.or_false, Bool.true_and, Bool.and_true, Bool.false_and, Bool.and_false])))), rfl⟩
 refine .set (d := 5) (u := .bool false) rfl (congrArg Value.bool hg1) ?_
 have hg1' := of_decide_eq_false hg1
 refine .no rfl rfl rfl rfl rfl rfl rfl (.no rfl rfl rfl rfl rfl rfl rfl (.pickF rfl rfl rfl (.assign rfl rfl (.ops0 (.thenN (.retc (.doneR (ResV.tmp rfl ResV.nil) ?_)))))))
 exact ⟨congrArg Ending.returned (congrArg Value.bool (Eq.symm (by first | rfl | (simp only [largB, hg1, Bool.true_or, Bool.or_true, Bool.false_or, Bool.or_false, Bool.true_and, Bool.and_true, Bool.false_and, Bool.and_false])))), rfl⟩
theorem letter_any (u : UInt8) (w : World)  :
  Calls Tryz.prog 52 ([.int .u8 (u.toNat : Int)] : List Value).toArray w fun e w' => e = .returned (.bool (letB u)) ∧ w = w' := by
 refine At.enter (N := 17) Tryz.func52 rfl rfl (by simp) [(0, .int .u8 (u.toNat : Int))] (by simp) ?_
 refine .seq (.region (.assign rfl rfl (.ops0 (.thenN (.seq (.region (.move rfl rfl ?_)))))))
 refine At.call en66 rfl rfl (large_any u _) (fun e w' hR => ?_)
 obtain ⟨rfl, rfl⟩ := hR
 refine ⟨_, rfl, ?_⟩
 refine .move rfl rfl ?_
 refine At.cases ((largB u)) (fun hg1 => ?_) (fun hg1 => ?_)
 ·skip
  refine .set (d := 5) (u := .bool true) rfl (congrArg Value.bool hg1) (.no rfl rfl rfl rfl rfl rfl rfl (.no rfl rfl rfl rfl rfl rfl rfl (.no rfl rfl rfl rfl rfl rfl rfl (.noU rfl rfl rfl rfl rfl rfl (.noU rfl rfl rfl rfl rfl rfl (.no rfl rfl rfl rfl rfl rfl rfl (.pickT rfl rfl rfl (.move rfl rfl (.no rfl rfl rfl rfl rfl rfl rfl (.no rfl rfl rfl rfl rfl rfl rfl (.pickT rfl rfl rfl (.assign rfl rfl (.ops0 (.thenN (.retc (.doneR (ResV.tmp rfl ResV.nil) ?_))))))))))))))))
  exact ⟨congrArg Ending.returned (congrArg Value.bool (Eq.symm (by first | rfl | (simp only [letB, hg1, Bool.true_or, Bool.or_true, Bool.false_or, Bool.or_false, Bool.true_and, Bool.and_true, Bool.false_and, Bool.and_false])))), rfl⟩
 refine .set (d := 5) (u := .bool false) rfl (congrArg Value.bool hg1) (.yes rfl rfl rfl rfl (.move rfl rfl (.yes rfl rfl rfl rfl (.geq rfl rfl rfl (.yes rfl rfl rfl rfl (.move rfl rfl ?_))))))
 refine At.cases (decide (97 ≤ (u.toNat : Int))) (fun hg2 => ?_) (fun hg2 => ?_)
 ·skip
  refine .set (d := 8) (u := .bool true) rfl (congrArg Value.bool hg2) ?_
  have hg2' := of_decide_eq_true hg2
  refine .yes rfl rfl rfl rfl (.move rfl rfl (.yes rfl rfl rfl rfl (.leq rfl rfl rfl (.yes rfl rfl rfl rfl (.pickT rfl rfl rfl (.pickF rfl rfl rfl (.move rfl rfl ?_)))))))
  refine At.cases (decide ((u.toNat : Int) ≤ 122)) (fun hg3 => ?_) (fun hg3 => ?_)
  ·skip
   refine .set (d := 13) (u := .bool true) rfl (congrArg Value.bool hg3) ?_
   have hg3' := of_decide_eq_true hg3
   refine .no rfl rfl rfl rfl rfl rfl rfl (.no rfl rfl rfl rfl rfl rfl rfl (.pickT rfl rfl rfl (.assign rfl rfl (.ops0 (.thenN (.retc (.doneR (ResV.tmp rfl ResV.nil) ?_)))))))
   exact ⟨congrArg Ending.returned (congrArg Value.bool (Eq.symm (by first | rfl | (simp only [letB, hg1, hg2, hg3, Bool.true_or, Bool.or_true, Bool.false_or, Bool.or_false, Bool.true_and, Bool.and_true, Bool.false_and, Bool.and_false])))), rfl⟩
  refine .set (d := 13) (u := .bool false) rfl (congrArg Value.bool hg3) ?_
  have hg3' := of_decide_eq_false hg3
  refine .yes rfl rfl rfl rfl (.move rfl rfl (.yes rfl rfl rfl rfl (.eqI rfl rfl rfl (.pickF rfl rfl rfl (.assign rfl rfl (.ops0 (.thenN (.retc (.doneR (ResV.tmp rfl ResV.nil) ?_)))))))))
  exact ⟨congrArg Ending.returned (congrArg Value.bool (Eq.symm (by first | rfl | (simp only [letB, hg1, hg2, hg3, Bool.true_or, Bool.or_true, Bool.false_or, Bool.or_false, Bool.true_and, Bool.and_true, Bool.false_and, Bool.and_false])))), rfl⟩
 refine .set (d := 8) (u := .bool false) rfl (congrArg Value.bool hg2) ?_
 have hg2' := of_decide_eq_false hg2
 refine .no rfl rfl rfl rfl rfl rfl rfl (.no rfl rfl rfl rfl rfl rfl rfl (.yes rfl rfl rfl rfl (.pickF rfl rfl rfl (.pickF rfl rfl rfl (.move rfl rfl (.yes rfl rfl rfl rfl (.move rfl rfl (.yes rfl rfl rfl rfl (.eqI rfl rfl rfl (.pickF rfl rfl rfl (.assign rfl rfl (.ops0 (.thenN (.retc (.doneR (ResV.tmp rfl ResV.nil) ?_)))))))))))))))
 exact ⟨congrArg Ending.returned (congrArg Value.bool (Eq.symm (by first | rfl | (simp only [letB, hg1, hg2, Bool.true_or, Bool.or_true, Bool.false_or, Bool.or_false, Bool.true_and, Bool.and_true, Bool.false_and, Bool.and_false])))), rfl⟩
theorem nameC_any (u : UInt8) (w : World)  :
  Calls Tryz.prog 67 ([.int .u8 (u.toNat : Int)] : List Value).toArray w fun e w' => e = .returned (.bool (nameB u)) ∧ w = w' := by
 refine At.enter (N := 9) Tryz.func67 rfl rfl (by simp) [(0, .int .u8 (u.toNat : Int))] (by simp) ?_
 refine .seq (.region (.assign rfl rfl (.ops0 (.thenN (.seq (.region (.move rfl rfl ?_)))))))
 refine At.call en52 rfl rfl (letter_any u _) (fun e w' hR => ?_)
 obtain ⟨rfl, rfl⟩ := hR
 refine ⟨_, rfl, ?_⟩
 refine .move rfl rfl ?_
 refine At.cases ((letB u)) (fun hg1 => ?_) (fun hg1 => ?_)
 ·skip
  refine .set (d := 5) (u := .bool true) rfl (congrArg Value.bool hg1) (.no rfl rfl rfl rfl rfl rfl rfl (.no rfl rfl rfl rfl rfl rfl rfl (.pickT rfl rfl rfl (.assign rfl rfl (.ops0 (.thenN (.retc (.doneR (ResV.tmp rfl ResV.nil) ?_))))))))
  exact ⟨congrArg Ending.returned (congrArg Value.bool (Eq.symm (by first | rfl | (simp only [nameB, hg1, Bool.true_or, Bool.or_true, Bool.false_or, Bool.or_false, Bool.true_and, Bool.and_true, Bool.false_and, Bool.and_false])))), rfl⟩
 refine .set (d := 5) (u := .bool false) rfl (congrArg Value.bool hg1) (.yes rfl rfl rfl rfl (.move rfl rfl (.yes rfl rfl rfl rfl ?_)))
 refine At.call en50 rfl rfl (digit_any u _) (fun e w' hR => ?_)
 obtain ⟨rfl, rfl⟩ := hR
 refine ⟨_, rfl, ?_⟩
 refine .pickF rfl rfl rfl (.assign rfl rfl (.ops0 (.thenN (.retc (.doneR (ResV.tmp rfl ResV.nil) ?_)))))
 exact ⟨congrArg Ending.returned (congrArg Value.bool (Eq.symm (by first | rfl | (simp only [nameB, hg1, Bool.true_or, Bool.or_true, Bool.false_or, Bool.or_false, Bool.true_and, Bool.and_true, Bool.false_and, Bool.and_false])))), rfl⟩
theorem strings_IndexByte_u (l : List UInt8) (u : UInt8) (w : World) : Calls Tryz.prog 74 ([.string (bs l), .int .u8 (u.toNat : Int)] : List Value).toArray w fun e w' => e = .returned (.int .i64 (Lib.indexByte l u)) ∧ w = w' := by
 have h := Tryz.strings_IndexByte (bs l) (u.toNat : Int) w
 rw [bs_list, Int.toNat_natCast, Nat.toUInt8_eq, UInt8.ofNat_toNat] at h
 exact h.mono fun e w' hq => ⟨hq.1, hq.2.symm⟩
theorem blankC_any (u : UInt8) (w : World)  :
  Calls Tryz.prog 73 ([.int .u8 (u.toNat : Int)] : List Value).toArray w fun e w' => e = .returned (.bool (blkB u)) ∧ w = w' := by
 refine At.enter (N := 6) Tryz.func73 rfl rfl (by simp) [(0, .int .u8 (u.toNat : Int))] (by simp) ?_
 refine .seq (.region (.assign rfl rfl (.ops0 (.thenN (.seq (.region (.move rfl rfl ?_)))))))
 refine At.call en74 rfl rfl (strings_IndexByte_u _ u _) (fun e w' hR => ?_)
 obtain ⟨rfl, rfl⟩ := hR
 refine ⟨_, rfl, ?_⟩
 refine .geq rfl rfl rfl (.assign rfl rfl (.ops0 (.thenN (.retc (.doneR (ResV.tmp rfl ResV.nil) ?_)))))
 exact ⟨congrArg Ending.returned (congrArg Value.bool (Eq.symm (by first | rfl | (simp only [blkB, Bool.true_or, Bool.or_true, Bool.false_or, Bool.or_false, Bool.true_and, Bool.and_true, Bool.false_and, Bool.and_false])))), rfl⟩
theorem lineC_any (u : UInt8) (w : World)  :
  Calls Tryz.prog 75 ([.int .u8 (u.toNat : Int)] : List Value).toArray w fun e w' => e = .returned (.bool (lineB u)) ∧ w = w' := by
 refine At.enter (N := 5) Tryz.func75 rfl rfl (by simp) [(0, .int .u8 (u.toNat : Int))] (by simp) ?_
 refine .seq (.region (.assign rfl rfl (.ops0 (.thenN (.seq (.region (.move rfl rfl (.neI rfl rfl rfl (.assign rfl rfl (.ops0 (.thenN (.retc (.doneR (ResV.tmp rfl ResV.nil) ?_)))))))))))))
 exact ⟨congrArg Ending.returned (congrArg Value.bool (Eq.symm (by first | rfl | (simp only [lineB, Bool.true_or, Bool.or_true, Bool.false_or, Bool.or_false, Bool.true_and, Bool.and_true, Bool.false_and, Bool.and_false])))), rfl⟩
theorem anyC_any (u : UInt8) (w : World)  :
  Calls Tryz.prog 54 ([.int .u8 (u.toNat : Int)] : List Value).toArray w fun e w' => e = .returned (.bool true) ∧ w = w' := by
 refine At.enter (N := 3) Tryz.func54 rfl rfl (by simp) [(0, .int .u8 (u.toNat : Int))] (by simp) ?_
 refine .seq (.region (.assign rfl rfl (.ops0 (.thenN (.seq (.region (.assign rfl rfl (.ops0 (.thenN (.retc (.doneR (ResV.tmp rfl ResV.nil) ?_)))))))))))
 exact ⟨rfl, rfl⟩
theorem while_any (l : List UInt8) (c : FuncId) (cap : List Value) (p : UInt8 → Bool) (w : World) (hl : l.length ≤ 9223372036854775807) (hent : entB Tryz.prog c = true) (hclo : ∀ (u : UInt8) (w1 : World), Calls Tryz.prog c ([.int .u8 (u.toNat : Int)] ++ cap : List Value).toArray w1 fun e w2 => e = .returned (.bool (p u)) ∧ w1 = w2) :
  Calls Tryz.prog 65 ([.string (bs l), .func (.func c) #[] cap.toArray] : List Value).toArray w fun e w' => e = .returned (.int .i64 (whileN p l : Int)) ∧ w = w' := by
 refine At.enter (N := 20) Tryz.func65 rfl rfl (by simp) [(0, .string (bs l)), (1, .func (.func c) #[] cap.toArray)] (by simp) ?_
 refine .seq (.region (.assign rfl rfl (.ops0 (.thenN (.seq (.region (.assign rfl rfl (.ops0 (.thenN (.seq (.block ?_)))))))))))
 refine At.loop (Nat) (fun k => [(0, .string (bs l)), (1, .func (.func c) #[] cap.toArray), (5, .int .i64 (k : Int))]) (fun k w1 => w = w1 ∧ (k ≤ l.length) ∧ (∀ i x, i < k → l[i]? = some x → p x = true)) (fun k => l.length - k) (0 : Nat) (sC rfl (sC rfl (sC rfl sN))) ⟨rfl, (Nat.zero_le _), (fun i x hi => absurd hi (Nat.not_lt_zero i))⟩ (fun k w1 hI => ?_)
 obtain ⟨rfl, hkb, hn⟩ := hI
 show At _ _ [(0, .string (bs l)), (1, .func (.func c) #[] cap.toArray), (5, .int .i64 (k : Int))] _ _
 refine .seq (.seq (.region (.move rfl rfl (.move rfl rfl (.lenB (l := l) rfl st9 rfl (.lss rfl rfl rfl (.move rfl rfl ?_)))))))
 refine At.cases (decide ((k : Int) < (l.length : Int))) (fun hg1 => ?_) (fun hg1 => ?_)
 ·skip
  refine .set (d := 10) (u := .bool true) rfl (congrArg Value.bool hg1) ?_
  have hg1' := of_decide_eq_true hg1
  refine .yes rfl rfl rfl rfl (.move rfl rfl (.yes rfl rfl rfl rfl (.move rfl rfl (.yes rfl rfl rfl rfl (.move rfl rfl (.yes rfl rfl rfl rfl ?_))))))
  obtain ⟨u1, hu1⟩ := some_of_lt (l := l) (i := k) (by omega)
  refine .indexB (l := l) (i := k) rfl rfl hu1 st9 rfl (.yes rfl rfl rfl rfl ?_)
  refine At.callV rfl hent rfl rfl (hclo u1 _) (fun e w' hR => ?_)
  obtain ⟨rfl, rfl⟩ := hR
  refine ⟨_, rfl, ?_⟩
  refine .pickT rfl rfl rfl (.ops0 (.thenN ?_))
  refine At.cond (b := (p u1)) rfl (fun hc1 => ?_) (fun hc1 => ?_)
  ·skip
   refine .skip (.thenN (.block (.region (.move rfl rfl (.addI rfl rfl rfl (by omega) (.assign rfl rfl (.ops0 (.inN (.thenN ?_)))))))))
   exact fun act_ hact_ => ⟨(k + 1), hact_.sub (sC rfl (sC rfl (sC rfl sN))), ⟨rfl, (by omega), (next_yes hn hu1 hc1)⟩, by first | omega | (dsimp only; omega)⟩
  refine .exit (.thenE (.thenE (.inE (.thenN (.seq (.region (.move rfl rfl (.assign rfl rfl (.ops0 (.thenN (.retc (.doneR (ResV.tmp rfl ResV.nil) ?_))))))))))))
  exact ⟨congrArg Ending.returned (congrArg (fun n : Nat => Value.int .i64 (n : Int)) (whileN_eq hkb hn (at_stop hu1 hc1)).symm), rfl⟩
 refine .set (d := 10) (u := .bool false) rfl (congrArg Value.bool hg1) ?_
 have hg1' := of_decide_eq_false hg1
 refine .no rfl rfl rfl rfl rfl rfl rfl (.no rfl rfl rfl rfl rfl rfl rfl (.no rfl rfl rfl rfl rfl rfl rfl (.no rfl rfl rfl rfl rfl rfl rfl (.no rfl rfl rfl rfl rfl rfl rfl (.pickF rfl rfl rfl (.ops0 (.thenN (.condF rfl (.exit (.thenE (.thenE (.inE (.thenN (.seq (.region (.move rfl rfl (.assign rfl rfl (.ops0 (.thenN (.retc (.doneR (ResV.tmp rfl ResV.nil) ?_)))))))))))))))))))))
 exact ⟨congrArg Ending.returned (congrArg (fun n : Nat => Value.int .i64 (n : Int)) (whileN_eq hkb hn (at_end hg1')).symm), rfl⟩
theorem blank_any (l : List UInt8) (w : World) (hl : l.length ≤ 9223372036854775807) :
  Calls Tryz.prog 56 ([.string (bs l)] : List Value).toArray w fun e w' => e = .returned (.int .i64 (blank1 l : Int)) ∧ w = w' := by
 refine At.enter (N := 20) Tryz.func56 rfl rfl (by simp) [(0, .string (bs l))] (by simp) ?_
 refine .seq (.region (.assign rfl rfl (.ops0 (.thenN (.seq (.region (.move rfl rfl ?_)))))))
 refine At.call en65 rfl rfl (while_any l 73 [] blkB _ (by omega) en73 (fun u w1 => blankC_any u w1)) (fun e w' hR => ?_)
 obtain ⟨rfl, rfl⟩ := hR
 refine ⟨_, rfl, ?_⟩
 refine .assign rfl rfl (.ops0 (.thenN (.seq (.seq (.region (.move rfl rfl (.eqI rfl rfl rfl (.move rfl rfl ?_))))))))
 refine At.cases (decide ((whileN blkB l : Int) = 0)) (fun hg1 => ?_) (fun hg1 => ?_)
 ·skip
  refine .set (d := 8) (u := .bool true) rfl (congrArg Value.bool hg1) ?_
  have hg1' := of_decide_eq_true hg1
  refine .yes rfl rfl rfl rfl (.move rfl rfl (.yes rfl rfl rfl rfl (.neB' (a := l) (b := ([] : List UInt8)) rfl rfl rfl (.pickT rfl rfl rfl (.move rfl rfl ?_)))))
  refine At.cases ((!decide (l = ([] : List UInt8)))) (fun hg2 => ?_) (fun hg2 => ?_)
  ·skip
   refine .set (d := 12) (u := .bool true) rfl (congrArg Value.bool hg2) ?_
   have hg2' := hg2; simp only [Bool.not_eq_true', Bool.not_eq_false', decide_eq_true_eq, decide_eq_false_iff_not] at hg2'
   refine .yes rfl rfl rfl rfl (.move rfl rfl (.yes rfl rfl rfl rfl ?_))
   obtain ⟨u1, hu1⟩ := some_of_lt (l := l) (i := 0) (by first | omega | exact List.length_pos_iff.2 (by assumption))
   refine .indexB (l := l) (i := 0) rfl rfl hu1 st9 rfl (.yes rfl rfl rfl rfl (.eqI rfl rfl rfl (.pickT rfl rfl rfl (.ops0 (.thenN ?_)))))
   refine At.cond (b := decide ((u1.toNat : Int) = 35)) rfl (fun hc1 => ?_) (fun hc1 => ?_)
   ·skip
    have hc1' := of_decide_eq_true hc1
    refine .region (.move rfl rfl ?_)
    refine At.call en65 rfl rfl (while_any l 75 [] lineB _ (by omega) en75 (fun u w1 => lineC_any u w1)) (fun e w' hR => ?_)
    obtain ⟨rfl, rfl⟩ := hR
    refine ⟨_, rfl, ?_⟩
    refine .assign rfl rfl (.ops0 (.thenN (.seq (.region (.move rfl rfl (.assign rfl rfl (.ops0 (.thenN (.retc (.doneR (ResV.tmp rfl ResV.nil) ?_))))))))))
    exact ⟨congrArg Ending.returned (congrArg (fun n : Nat => Value.int .i64 (n : Int)) (Eq.symm (by unfold blank1; cases l with | nil => simp_all | cons a r => simp_all))), rfl⟩
   have hc1' := of_decide_eq_false hc1
   refine .skip (.thenN (.seq (.region (.move rfl rfl (.assign rfl rfl (.ops0 (.thenN (.retc (.doneR (ResV.tmp rfl ResV.nil) ?_)))))))))
   exact ⟨congrArg Ending.returned (congrArg (fun n : Nat => Value.int .i64 (n : Int)) (Eq.symm (by unfold blank1; cases l with | nil => simp_all | cons a r => simp_all))), rfl⟩
  refine .set (d := 12) (u := .bool false) rfl (congrArg Value.bool hg2) ?_
  have hg2' := hg2; simp only [Bool.not_eq_true', Bool.not_eq_false', decide_eq_true_eq, decide_eq_false_iff_not] at hg2'
  refine .no rfl rfl rfl rfl rfl rfl rfl (.no rfl rfl rfl rfl rfl rfl rfl (.no rfl rfl rfl rfl rfl rfl rfl (.pickF rfl rfl rfl (.ops0 (.thenN (.condF rfl (.skip (.thenN (.seq (.region (.move rfl rfl (.assign rfl rfl (.ops0 (.thenN (.retc (.doneR (ResV.tmp rfl ResV.nil) ?_))))))))))))))))
  exact ⟨congrArg Ending.returned (congrArg (fun n : Nat => Value.int .i64 (n : Int)) (Eq.symm (by unfold blank1; cases l with | nil => simp_all | cons a r => simp_all))), rfl⟩
 refine .set (d := 8) (u := .bool false) rfl (congrArg Value.bool hg1) ?_
 have hg1' := of_decide_eq_false hg1
 refine .no rfl rfl rfl rfl rfl rfl rfl (.no rfl rfl rfl rfl rfl rfl rfl (.pickF rfl rfl rfl (.move rfl rfl (.no rfl rfl rfl rfl rfl rfl rfl (.no rfl rfl rfl rfl rfl rfl rfl (.no rfl rfl rfl rfl rfl rfl rfl (.pickF rfl rfl rfl (.ops0 (.thenN (.condF rfl (.skip (.thenN (.seq (.region (.move rfl rfl (.assign rfl rfl (.ops0 (.thenN (.retc (.doneR (ResV.tmp rfl ResV.nil) ?_))))))))))))))))))))
 exact ⟨congrArg Ending.returned (congrArg (fun n : Nat => Value.int .i64 (n : Int)) (Eq.symm (by unfold blank1; cases l with | nil => simp_all | cons a r => simp_all))), rfl⟩
theorem number_any (l : List UInt8) (w : World) (hl : l.length ≤ 1099511627776) :
  Calls Tryz.prog 51 ([.string (bs l)] : List Value).toArray w fun e w' => e = .returned (numV l) ∧ Below w.heap.size w w' := by
 have hwn := whileN_le digB l
 have htl : (l.take (whileN digB l)).length ≤ l.length := by simp; omega
 have hB := Below.refl w.heap.size w
 refine At.enter (N := 41) Tryz.func51 rfl rfl (by simp) [(0, .string (bs l))] (by simp) ?_
 refine .seq (.region ?_)
 refine At.alloc ze141 rfl (fun b1 w1 F1 => ?_)
 have gb1 := F1.ge hB
 have hb1 : w1.heap[b1]? = some (.cells #[.int .i64 0, .string (⟨#[]⟩ : ByteArray), .int .i64 0, .int .i64 0] 141) := F1.new
 replace hB := F1.below' hB
 refine .assign rfl rfl (.assign rfl rfl (.ops0 (.thenN (.seq (.region (.move rfl rfl ?_))))))
 refine At.call en65 rfl rfl (while_any l 50 [] digB _ (by omega) en50 (fun u w1 => digit_any u w1)) (fun e w' hR => ?_)
 obtain ⟨rfl, rfl⟩ := hR
 refine ⟨_, rfl, ?_⟩
 refine .assign rfl rfl (.ops0 (.thenN (.seq (.region (.assign rfl rfl (.ops0 (.thenN (.seq (.seq (.region (.move rfl rfl (.move rfl rfl ?_))))))))))))
 have hle1 : (whileN digB l) ≤ l.length := by first | omega | (simp only [List.length_take]; omega)
 refine .takeB (l := l) (h := (whileN digB l)) rfl rfl st9 hle1 rfl ?_
 refine At.toBytes (l := (l.take (whileN digB l))) rfl st9 el74 ik5 (by simp only [List.length_take]; omega) rfl (fun b2 cap1 w2 hgbb1 hbl1 hby1 => ?_)
 replace hb1 := Below.old hbl1 hb1
 replace hB := Below.andThen hB hbl1
 refine .lenSl rfl (BytesAt.ok hby1) el74 rfl (.move rfl rfl (.ops0 (.thenN (.block ?_))))
 refine At.loop (Nat × Nat) (fun (k, v) => [(0, .string (bs l)), (2, .pointer (some ⟨b1, 0, none⟩)), (5, .int .i64 (whileN digB l : Int)), (6, .int .i64 (v : Int)), (14, (.slice (some ⟨b2, 0, none⟩) (l.take (whileN digB l)).length cap1)), (15, .int .i64 ((l.take (whileN digB l)).length : Int)), (16, .int .i64 (k : Int))]) (fun (k, v) w3 => Below w.heap.size w w3 ∧ w3.heap[b1]? = some (.cells #[.int .i64 0, .string (⟨#[]⟩ : ByteArray), .int .i64 0, .int .i64 0] 141) ∧ BytesAt w3 (.slice (some ⟨b2, 0, none⟩) (l.take (whileN digB l)).length cap1) (l.take (whileN digB l)) ∧ (k ≤ (l.take (whileN digB l)).length) ∧ (v ≤ 9223372036854775807) ∧ (numGo v ((l.take (whileN digB l)).drop k) = numGo 0 (l.take (whileN digB l)))) (fun (k, v) => (l.take (whileN digB l)).length - k) (0, 0) (sC rfl (sC rfl (sC rfl (sC rfl (sC rfl (sC rfl (sC rfl sN))))))) ⟨hB, hb1, hby1, (Nat.zero_le _), (Nat.zero_le _), (rfl)⟩ (fun gh w3 hI => ?_)
 obtain ⟨k, v⟩ := gh
 clear hB hb1 hby1
 obtain ⟨hB, hb1, hby1, hkb, hvb, hn⟩ := hI
 show At _ _ [(0, .string (bs l)), (2, .pointer (some ⟨b1, 0, none⟩)), (5, .int .i64 (whileN digB l : Int)), (6, .int .i64 (v : Int)), (14, (.slice (some ⟨b2, 0, none⟩) (l.take (whileN digB l)).length cap1)), (15, .int .i64 ((l.take (whileN digB l)).length : Int)), (16, .int .i64 (k : Int))] _ _
 refine .seq (.region (.lss rfl rfl rfl (.ops0 (.thenN (.seq ?_)))))
 refine At.cond (b := decide ((k : Int) < ((l.take (whileN digB l)).length : Int))) rfl (fun hc1 => ?_) (fun hc1 => ?_)
 ·skip
  have hc1' := of_decide_eq_true hc1
  refine .skip (.thenN (.seq (.block (.seq ?_))))
  obtain ⟨u1, hu1⟩ := some_of_lt (l := (l.take (whileN digB l))) (i := k) (by omega)
  have hdr := dig_range (digs_dig hu1)
  refine .region (.indexAddr (i := k) rfl rfl (BytesAt.ok hby1) (lt_of_some hu1) el74 sz5 rfl (.load rfl (Ld.cell ag5 (cell_keep (BytesAt.get hby1 hu1) (Below.refl _ _))) rfl (.assign rfl rfl (.ops0 (.thenN (.seq (.seq (.region (.move rfl rfl (.move rfl rfl (.sub' rfl rfl rfl (.convI rfl ik5 ik3 rfl (.set (d := 23) (u := .int .i64 (((u1.toNat - 48 : Nat)) : Int)) rfl (congrArg (Value.int .i64) (sub48 (digs_dig hu1))) (.subI rfl rfl rfl (by first | omega | (simp only [List.length_take]; omega)) (.quoI rfl rfl (by first | omega | (simp only [List.length_take]; omega)) rfl (.set (d := 25) (u := .int .i64 ((((9223372036854775807 - (u1.toNat - 48)) / 10 : Nat)) : Int)) rfl (congrArg (Value.int .i64) (quo10 (by omega))) (.gtr rfl rfl rfl (.ops0 (.thenN ?_)))))))))))))))))))
  refine At.cond (b := decide ((((9223372036854775807 - (u1.toNat - 48)) / 10 : Nat) : Int) < (v : Int))) rfl (fun hc2 => ?_) (fun hc2 => ?_)
  ·skip
   have hc2' := of_decide_eq_true hc2
   refine .seq (.region (.build (C := #[.int .i64 0, .string (⟨#[]⟩ : ByteArray), .int .i64 0, .int .i64 0]) sd141 ze141 rfl (Bld.nil _) rfl ?_))
   refine At.storeAll rfl rfl hb1 sz141 rfl (by simp [Value.oneCell']) (fun w4 S1 => ?_)
   clear hby1
   replace hb1 : w4.heap[b1]? = some (.cells #[.int .i64 0, .string (⟨#[]⟩ : ByteArray), .int .i64 0, .int .i64 0] 141) := S1.new
   replace hB := S1.below' hB gb1
   refine .assign rfl rfl (.assign rfl rfl (.ops0 (.thenN (.retc (.thenR (.inR (.thenR (.thenR (.inR (.thenR (.doneR (ResV.cell rfl (Ld.own (C := #[.int .i64 0, .string (⟨#[]⟩ : ByteArray), .int .i64 0, .int .i64 0]) ag141 sz141 hb1) (ResV.tmp rfl (ResV.tmp rfl ResV.nil))) ?_)))))))))))
   exact ⟨congrArg Ending.returned (Eq.symm (numV_none (by show numGo 0 (l.take (whileN digB l)) = none; rw [← hn, numGo_step hu1, if_pos (by omega)]))), hB⟩
  have hc2' := of_decide_eq_false hc2
  refine .skip (.thenN (.region (.move rfl rfl (.mul rfl rfl rfl (.set (d := 29) (u := .int .i64 (((10 * v : Nat)) : Int)) rfl (congrArg (Value.int .i64) ((wrap64_id _ (by omega)).trans (by omega))) (.move rfl rfl (.sub' rfl rfl rfl (.convI rfl ik5 ik3 rfl (.set (d := 32) (u := .int .i64 (((u1.toNat - 48 : Nat)) : Int)) rfl (congrArg (Value.int .i64) (sub48 (digs_dig hu1))) (.addI rfl rfl rfl (by first | omega | (simp only [List.length_take]; omega)) (.assign rfl rfl (.ops0 (.inN (.thenN (.region (.addI rfl rfl rfl (by first | omega | (simp only [List.length_take]; omega)) (.move rfl rfl (.ops0 (.thenN ?_)))))))))))))))))))
  exact fun act_ hact_ => ⟨((k + 1), (10 * v + (u1.toNat - 48))), hact_.sub (sC rfl (sC rfl (sC rfl (Sub.cons (congrArg (fun x => some (Value.int .i64 x)) (by omega)) (sC rfl (sC rfl (sC rfl sN))))))), ⟨hB, hb1, hby1, (by omega), (by omega), (by rw [← hn, numGo_step hu1, if_neg (by omega)])⟩, by first | omega | (dsimp only; omega)⟩
 have hc1' := of_decide_eq_false hc1
 refine .exit (.thenE (.thenE (.inE (.thenN (.seq (.region (.move rfl rfl (.move rfl rfl (.takeB (l := l) (h := (whileN digB l)) rfl rfl st9 hle1 rfl (.move rfl rfl (.build (C := #[.int .i64 1, .string (bs (l.take (whileN digB l))), .int .i64 (v : Int), .int .i64 0]) sd141 ze141 rfl (Bld.cons fo141_0 rfl (lB rfl) (Bld.cons fo141_1 rfl (lB rfl) (Bld.cons fo141_2 rfl (lB rfl) (Bld.nil _)))) rfl (.move rfl rfl ?_))))))))))))
 refine At.storeAll rfl rfl hb1 sz141 rfl (by simp [Value.oneCell']) (fun w5 S2 => ?_)
 clear hby1
 replace hb1 : w5.heap[b1]? = some (.cells #[.int .i64 1, .string (bs (l.take (whileN digB l))), .int .i64 (v : Int), .int .i64 0] 141) := S2.new
 replace hB := S2.below' hB gb1
 refine .assign rfl rfl (.assign rfl rfl (.ops0 (.thenN (.retc (.doneR (ResV.cell rfl (Ld.own (C := #[.int .i64 1, .string (bs (l.take (whileN digB l))), .int .i64 (v : Int), .int .i64 0]) ag141 sz141 hb1) (ResV.tmp rfl (ResV.tmp rfl ResV.nil))) ?_)))))
 exact ⟨congrArg Ending.returned (Eq.symm (numV_some (v := v) (by show numGo 0 (l.take (whileN digB l)) = some v; rw [← hn, List.drop_eq_nil_of_le (by omega)]; rfl))), hB⟩
theorem strings_Contains_u (a b : List UInt8) (m : Int) (w : World) (ha : a.length < 4294967281) (hm : w.cell? ⟨0, 0, none⟩ = some (.int .i64 m)) : Calls Tryz.prog 68 ([.string (bs a), .string (bs b)] : List Value).toArray w fun e w' => e = .returned (.bool (Lib.contains a b)) ∧ w = w' := by
 have h := Tryz.strings_Contains (bs a) (bs b) m w (by rw [bs_size]; exact ha) hm
 rw [bs_list, bs_list] at h
 exact h.mono fun e w' hq => ⟨hq.1, hq.2.symm⟩
theorem name_any (l : List UInt8) (m : Int) (w : World) (hl : l.length ≤ 1099511627776) (h0 : l ≠ []) (hm : w.cell? ⟨0, 0, none⟩ = some (.int .i64 m)) :
  Calls Tryz.prog 53 ([.string (bs l)] : List Value).toArray w fun e w' => e = .returned (nameV l) ∧ Below w.heap.size w w' := by
 have hwn := whileN_le nameB l
 have hl0 := List.length_pos_iff.2 h0
 have hB := Below.refl w.heap.size w
 refine At.enter (N := 45) Tryz.func53 rfl rfl (by simp) [(0, .string (bs l))] (by simp) ?_
 refine .seq (.region ?_)
 refine At.alloc ze141 rfl (fun b1 w1 F1 => ?_)
 have gb1 := F1.ge hB
 have hb1 : w1.heap[b1]? = some (.cells #[.int .i64 0, .string (⟨#[]⟩ : ByteArray), .int .i64 0, .int .i64 0] 141) := F1.new
 replace hB := F1.below' hB
 refine .assign rfl rfl (.assign rfl rfl (.ops0 (.thenN (.seq (.region (.move rfl rfl ?_))))))
 refine At.call en65 rfl rfl (while_any l 67 [] nameB _ (by omega) en67 (fun u w1 => nameC_any u w1)) (fun e w' hR => ?_)
 obtain ⟨rfl, rfl⟩ := hR
 refine ⟨_, rfl, ?_⟩
 refine .assign rfl rfl (.ops0 (.thenN (.seq (.region (.move rfl rfl (.move rfl rfl ?_))))))
 have hle1 : (whileN nameB l) ≤ l.length := by omega
 refine .takeB (l := l) (h := (whileN nameB l)) rfl rfl st9 hle1 rfl (.build (C := #[.int .i64 2, .string (bs (l.take (whileN nameB l))), .int .i64 0, .int .i64 0]) sd141 ze141 rfl (Bld.cons fo141_0 rfl (lB rfl) (Bld.cons fo141_1 rfl (lB rfl) (Bld.nil _))) rfl ?_)
 refine At.alloc ze141 rfl (fun b2 w2 F2 => ?_)
 have n_b1_b2 := F2.ne' hb1
 have gb2 := F2.ge hB
 replace hb1 := F2.old hb1
 have hb2 : w2.heap[b2]? = some (.cells #[.int .i64 0, .string (⟨#[]⟩ : ByteArray), .int .i64 0, .int .i64 0] 141) := F2.new
 replace hB := F2.below' hB
 refine At.storeAll rfl rfl hb2 sz141 rfl (by simp [Value.oneCell']) (fun w3 S1 => ?_)
 replace hb1 := S1.other hb1 n_b1_b2
 replace hb2 : w3.heap[b2]? = some (.cells #[.int .i64 2, .string (bs (l.take (whileN nameB l))), .int .i64 0, .int .i64 0] 141) := S1.new
 replace hB := S1.below' hB gb2
 refine .ops0 (.thenN (.seq (.block (.seq (.region (.move rfl rfl (.gtr rfl rfl rfl (.assign rfl rfl (.ops0 (.thenN ?_))))))))))
 refine At.cond (b := decide (60 < (whileN nameB l : Int))) rfl (fun hc1 => ?_) (fun hc1 => ?_)
 ·skip
  have hc1' := of_decide_eq_true hc1
  refine .seq (.region (.load rfl (Ld.own (C := #[.int .i64 2, .string (bs (l.take (whileN nameB l))), .int .i64 0, .int .i64 0]) ag141 sz141 hb2) rfl ?_))
  refine At.storeAll rfl rfl hb1 sz141 rfl (by simp [Value.oneCell']) (fun w4 S2 => ?_)
  replace hb1 : w4.heap[b1]? = some (.cells #[.int .i64 2, .string (bs (l.take (whileN nameB l))), .int .i64 0, .int .i64 0] 141) := S2.new
  replace hB := S2.below' hB gb1
  refine .assign rfl rfl (.assign rfl rfl (.ops0 (.thenN (.retc (.inR (.thenR (.doneR (ResV.cell rfl (Ld.own (C := #[.int .i64 2, .string (bs (l.take (whileN nameB l))), .int .i64 0, .int .i64 0]) ag141 sz141 hb1) (ResV.tmp rfl (ResV.tmp rfl ResV.nil))) ?_)))))))
  exact ⟨congrArg Ending.returned (Eq.symm (by simp only [nameV, kwB, hc1, if_true, if_false, Bool.false_eq_true, Bool.false_and, Bool.true_and]; rfl)), hB⟩
 have hc1' := of_decide_eq_false hc1
 refine .seq (.region (.move rfl rfl ?_))
 obtain ⟨u1, hu1⟩ := some_of_lt (l := l) (i := 0) (by omega)
 refine .indexB (l := l) (i := 0) rfl rfl hu1 st9 rfl ?_
 refine At.call en66 rfl rfl (large_any u1 _) (fun e w' hR => ?_)
 obtain ⟨rfl, rfl⟩ := hR
 refine ⟨_, rfl, ?_⟩
 refine .assign rfl rfl (.ops0 (.thenN ?_))
 refine At.cond (b := (largB u1)) rfl (fun hc2 => ?_) (fun hc2 => ?_)
 ·skip
  refine .region (.fieldAddr rfl fo141_0 rfl ?_)
  refine At.store1 rfl rfl hb2 sz3 (by simp) rfl (fun w5 S3 => ?_)
  replace hb1 := S3.other hb1 n_b1_b2
  replace hb2 : w5.heap[b2]? = some (.cells #[.int .i64 3, .string (bs (l.take (whileN nameB l))), .int .i64 0, .int .i64 0] 141) := S3.new
  replace hB := S3.below' hB gb2
  refine .ops0 (.inN (.thenN (.seq (.region (.load rfl (Ld.own (C := #[.int .i64 3, .string (bs (l.take (whileN nameB l))), .int .i64 0, .int .i64 0]) ag141 sz141 hb2) rfl (.move rfl rfl ?_))))))
  refine At.storeAll rfl rfl hb1 sz141 rfl (by simp [Value.oneCell']) (fun w6 S4 => ?_)
  replace hb1 : w6.heap[b1]? = some (.cells #[.int .i64 3, .string (bs (l.take (whileN nameB l))), .int .i64 0, .int .i64 0] 141) := S4.new
  replace hB := S4.below' hB gb1
  refine .assign rfl rfl (.assign rfl rfl (.ops0 (.thenN (.retc (.doneR (ResV.cell rfl (Ld.own (C := #[.int .i64 3, .string (bs (l.take (whileN nameB l))), .int .i64 0, .int .i64 0]) ag141 sz141 hb1) (ResV.tmp rfl (ResV.tmp rfl ResV.nil))) ?_)))))
  exact ⟨congrArg Ending.returned (Eq.symm (by simp only [nameV, kwB, getD_of hu1, hc1, hc2, if_true, if_false, Bool.false_eq_true, Bool.false_and, Bool.true_and]; rfl)), hB⟩
 refine .seq (.region (.fieldAddr rfl fo141_1 rfl (.load rfl (Ld.ownCell ag9 hb2 rfl) rfl (.catB (a := ([32] : List UInt8)) (b := (l.take (whileN nameB l))) rfl rfl rfl (by simp only [List.length_append, List.length_take, List.length_cons, List.length_nil]; omega) (.catB (a := (([32] : List UInt8) ++ (l.take (whileN nameB l)))) (b := ([32] : List UInt8)) rfl rfl rfl (by simp only [List.length_append, List.length_take, List.length_cons, List.length_nil]; omega) ?_)))))
 have hmc := cell_keep hm hB
 refine At.call en68 rfl rfl (strings_Contains_u keysL ((([32] : List UInt8) ++ (l.take (whileN nameB l))) ++ ([32] : List UInt8)) m _ (by decide) hmc) (fun e w' hR => ?_)
 obtain ⟨rfl, rfl⟩ := hR
 refine ⟨_, rfl, ?_⟩
 refine .assign rfl rfl (.ops0 (.thenN ?_))
 refine At.cond (b := (Lib.contains keysL ((([32] : List UInt8) ++ (l.take (whileN nameB l))) ++ ([32] : List UInt8)))) rfl (fun hc3 => ?_) (fun hc3 => ?_)
 ·skip
  refine .region (.fieldAddr rfl fo141_0 rfl ?_)
  refine At.store1 rfl rfl hb2 sz3 (by simp) rfl (fun w8 S5 => ?_)
  replace hb1 := S5.other hb1 n_b1_b2
  replace hb2 : w8.heap[b2]? = some (.cells #[.int .i64 4, .string (bs (l.take (whileN nameB l))), .int .i64 0, .int .i64 0] 141) := S5.new
  replace hB := S5.below' hB gb2
  refine .ops0 (.inN (.thenN (.seq (.region (.load rfl (Ld.own (C := #[.int .i64 4, .string (bs (l.take (whileN nameB l))), .int .i64 0, .int .i64 0]) ag141 sz141 hb2) rfl (.move rfl rfl ?_))))))
  refine At.storeAll rfl rfl hb1 sz141 rfl (by simp [Value.oneCell']) (fun w9 S6 => ?_)
  replace hb1 : w9.heap[b1]? = some (.cells #[.int .i64 4, .string (bs (l.take (whileN nameB l))), .int .i64 0, .int .i64 0] 141) := S6.new
  replace hB := S6.below' hB gb1
  refine .assign rfl rfl (.assign rfl rfl (.ops0 (.thenN (.retc (.doneR (ResV.cell rfl (Ld.own (C := #[.int .i64 4, .string (bs (l.take (whileN nameB l))), .int .i64 0, .int .i64 0]) ag141 sz141 hb1) (ResV.tmp rfl (ResV.tmp rfl ResV.nil))) ?_)))))
  exact ⟨congrArg Ending.returned (Eq.symm (by simp only [nameV, kwB, getD_of hu1, hc1, hc2, hc3, if_true, if_false, Bool.false_eq_true, Bool.false_and, Bool.true_and]; rfl)), hB⟩
 refine .seq (.region (.move rfl rfl (.move rfl rfl (.lenB (l := l) rfl st9 rfl (.lss rfl rfl rfl (.move rfl rfl ?_))))))
 refine At.cases (decide ((whileN nameB l : Int) < (l.length : Int))) (fun hg1 => ?_) (fun hg1 => ?_)
 ·skip
  refine .set (d := 34) (u := .bool true) rfl (congrArg Value.bool hg1) ?_
  have hg1' := of_decide_eq_true hg1
  refine .yes rfl rfl rfl rfl (.move rfl rfl (.yes rfl rfl rfl rfl (.move rfl rfl (.yes rfl rfl rfl rfl ?_))))
  obtain ⟨u2, hu2⟩ := some_of_lt (l := l) (i := (whileN nameB l)) (by omega)
  refine .indexB (l := l) (i := (whileN nameB l)) rfl rfl hu2 st9 rfl (.yes rfl rfl rfl rfl (.eqI rfl rfl rfl (.pickT rfl rfl rfl (.assign rfl rfl (.ops0 (.thenN ?_))))))
  refine At.cond (b := decide ((u2.toNat : Int) = 33)) rfl (fun hc4 => ?_) (fun hc4 => ?_)
  ·skip
   have hc4' := of_decide_eq_true hc4
   refine .seq (.region (.fieldAddr rfl fo141_0 rfl ?_))
   refine At.store1 rfl rfl hb2 sz3 (by simp) rfl (fun w10 S7 => ?_)
   replace hb1 := S7.other hb1 n_b1_b2
   replace hb2 : w10.heap[b2]? = some (.cells #[.int .i64 6, .string (bs (l.take (whileN nameB l))), .int .i64 0, .int .i64 0] 141) := S7.new
   replace hB := S7.below' hB gb2
   refine .ops0 (.thenN (.region (.move rfl rfl (.addI rfl rfl rfl (by omega) (.assign rfl rfl (.ops0 (.inN (.thenN (.seq (.region (.load rfl (Ld.own (C := #[.int .i64 6, .string (bs (l.take (whileN nameB l))), .int .i64 0, .int .i64 0]) ag141 sz141 hb2) rfl (.move rfl rfl ?_))))))))))))
   refine At.storeAll rfl rfl hb1 sz141 rfl (by simp [Value.oneCell']) (fun w11 S8 => ?_)
   replace hb1 : w11.heap[b1]? = some (.cells #[.int .i64 6, .string (bs (l.take (whileN nameB l))), .int .i64 0, .int .i64 0] 141) := S8.new
   replace hB := S8.below' hB gb1
   refine .assign rfl rfl (.assign rfl rfl (.ops0 (.thenN (.retc (.doneR (ResV.cell rfl (Ld.own (C := #[.int .i64 6, .string (bs (l.take (whileN nameB l))), .int .i64 0, .int .i64 0]) ag141 sz141 hb1) (ResV.tmp rfl (ResV.tmp rfl ResV.nil))) ?_)))))
   exact ⟨congrArg Ending.returned (Eq.symm (by simp only [nameV, kwB, getD_of hu1, getD_of hu2, hc1, hc2, hc3, hg1, hc4, if_true, if_false, Bool.false_eq_true, Bool.false_and, Bool.true_and]; rfl)), hB⟩
  have hc4' := of_decide_eq_false hc4
  refine .skip (.inN (.thenN (.seq (.region (.load rfl (Ld.own (C := #[.int .i64 2, .string (bs (l.take (whileN nameB l))), .int .i64 0, .int .i64 0]) ag141 sz141 hb2) rfl (.move rfl rfl ?_))))))
  refine At.storeAll rfl rfl hb1 sz141 rfl (by simp [Value.oneCell']) (fun w12 S9 => ?_)
  replace hb1 : w12.heap[b1]? = some (.cells #[.int .i64 2, .string (bs (l.take (whileN nameB l))), .int .i64 0, .int .i64 0] 141) := S9.new
  replace hB := S9.below' hB gb1
  refine .assign rfl rfl (.assign rfl rfl (.ops0 (.thenN (.retc (.doneR (ResV.cell rfl (Ld.own (C := #[.int .i64 2, .string (bs (l.take (whileN nameB l))), .int .i64 0, .int .i64 0]) ag141 sz141 hb1) (ResV.tmp rfl (ResV.tmp rfl ResV.nil))) ?_)))))
  exact ⟨congrArg Ending.returned (Eq.symm (by simp only [nameV, kwB, getD_of hu1, getD_of hu2, hc1, hc2, hc3, hg1, hc4, if_true, if_false, Bool.false_eq_true, Bool.false_and, Bool.true_and]; rfl)), hB⟩
 refine .set (d := 34) (u := .bool false) rfl (congrArg Value.bool hg1) ?_
 have hg1' := of_decide_eq_false hg1
 refine .no rfl rfl rfl rfl rfl rfl rfl (.no rfl rfl rfl rfl rfl rfl rfl (.no rfl rfl rfl rfl rfl rfl rfl (.no rfl rfl rfl rfl rfl rfl rfl (.pickF rfl rfl rfl (.assign rfl rfl (.ops0 (.thenN (.condF rfl (.skip (.inN (.thenN (.seq (.region (.load rfl (Ld.own (C := #[.int .i64 2, .string (bs (l.take (whileN nameB l))), .int .i64 0, .int .i64 0]) ag141 sz141 hb2) rfl (.move rfl rfl ?_)))))))))))))))
 refine At.storeAll rfl rfl hb1 sz141 rfl (by simp [Value.oneCell']) (fun w13 S10 => ?_)
 replace hb1 : w13.heap[b1]? = some (.cells #[.int .i64 2, .string (bs (l.take (whileN nameB l))), .int .i64 0, .int .i64 0] 141) := S10.new
 replace hB := S10.below' hB gb1
 refine .assign rfl rfl (.assign rfl rfl (.ops0 (.thenN (.retc (.doneR (ResV.cell rfl (Ld.own (C := #[.int .i64 2, .string (bs (l.take (whileN nameB l))), .int .i64 0, .int .i64 0]) ag141 sz141 hb1) (ResV.tmp rfl (ResV.tmp rfl ResV.nil))) ?_)))))
 exact ⟨congrArg Ending.returned (Eq.symm (by simp only [nameV, kwB, getD_of hu1, hc1, hc2, hc3, hg1, if_true, if_false, Bool.false_eq_true, Bool.false_and, Bool.true_and]; rfl)), hB⟩
theorem en69 : entB Tryz.prog 69 = true := by kernel_rfl
theorem en70 : entB Tryz.prog 70 = true := by kernel_rfl
theorem en71 : entB Tryz.prog 71 = true := by kernel_rfl
theorem en72 : entB Tryz.prog 72 = true := by kernel_rfl
theorem signs_any  (w : World)  :
  Calls Tryz.prog 69 ([] : List Value).toArray w fun e w' => ∃ v', e = .returned v' ∧ Below w.heap.size w w' ∧ StrsAt w' v' signsS ∧ w.heap.size ≤ vBlock v' := by
 have hB := Below.refl w.heap.size w
 refine At.enter (N := 2) Tryz.func69 rfl rfl (by simp) [] (by simp) ?_
 refine .seq (.region (.assign rfl rfl (.ops0 (.thenN (.seq (.region ?_))))))
 refine At.buildSlice (xs := [.const (.string (⟨#[45, 62]⟩ : ByteArray)), .const (.string (⟨#[58, 61]⟩ : ByteArray)), .const (.string (⟨#[40]⟩ : ByteArray)), .const (.string (⟨#[41]⟩ : ByteArray)), .const (.string (⟨#[123]⟩ : ByteArray)), .const (.string (⟨#[125]⟩ : ByteArray)), .const (.string (⟨#[44]⟩ : ByteArray)), .const (.string (⟨#[59]⟩ : ByteArray)), .const (.string (⟨#[58]⟩ : ByteArray)), .const (.string (⟨#[61]⟩ : ByteArray)), .const (.string (⟨#[43]⟩ : ByteArray)), .const (.string (⟨#[45]⟩ : ByteArray)), .const (.string (⟨#[42]⟩ : ByteArray)), .const (.string (⟨#[47]⟩ : ByteArray)), .const (.string (⟨#[60]⟩ : ByteArray)), .const (.string (⟨#[33]⟩ : ByteArray))]) rfl rfl el25 sz9 ze9 (by intro v hv; simp only [List.mem_cons, List.not_mem_nil, or_false] at hv; rcases hv with rfl | rfl | rfl | rfl | rfl | rfl | rfl | rfl | rfl | rfl | rfl | rfl | rfl | rfl | rfl | rfl <;> first | rfl | simp [Value.cells]) rfl (by decide) rfl (fun b1 w1 F1 => ?_)
 have gb1 := F1.ge hB
 have hb1 : w1.heap[b1]? = some (.cells #[.string (⟨#[45, 62]⟩ : ByteArray), .string (⟨#[58, 61]⟩ : ByteArray), .string (⟨#[40]⟩ : ByteArray), .string (⟨#[41]⟩ : ByteArray), .string (⟨#[123]⟩ : ByteArray), .string (⟨#[125]⟩ : ByteArray), .string (⟨#[44]⟩ : ByteArray), .string (⟨#[59]⟩ : ByteArray), .string (⟨#[58]⟩ : ByteArray), .string (⟨#[61]⟩ : ByteArray), .string (⟨#[43]⟩ : ByteArray), .string (⟨#[45]⟩ : ByteArray), .string (⟨#[42]⟩ : ByteArray), .string (⟨#[47]⟩ : ByteArray), .string (⟨#[60]⟩ : ByteArray), .string (⟨#[33]⟩ : ByteArray)] 9) := F1.new
 replace hB := F1.below' hB
 refine .assign rfl rfl (.ops0 (.thenN (.retc (.doneR (ResV.tmp rfl ResV.nil) ?_))))
 exact ⟨_, rfl, hB, (StrsAt.own (ss := [(⟨#[45, 62]⟩ : ByteArray), (⟨#[58, 61]⟩ : ByteArray), (⟨#[40]⟩ : ByteArray), (⟨#[41]⟩ : ByteArray), (⟨#[123]⟩ : ByteArray), (⟨#[125]⟩ : ByteArray), (⟨#[44]⟩ : ByteArray), (⟨#[59]⟩ : ByteArray), (⟨#[58]⟩ : ByteArray), (⟨#[61]⟩ : ByteArray), (⟨#[43]⟩ : ByteArray), (⟨#[45]⟩ : ByteArray), (⟨#[42]⟩ : ByteArray), (⟨#[47]⟩ : ByteArray), (⟨#[60]⟩ : ByteArray), (⟨#[33]⟩ : ByteArray)]) hb1 rfl (by decide) : StrsAt _ (.slice (some ⟨b1, 0, none⟩) 16 16) [(⟨#[45, 62]⟩ : ByteArray), (⟨#[58, 61]⟩ : ByteArray), (⟨#[40]⟩ : ByteArray), (⟨#[41]⟩ : ByteArray), (⟨#[123]⟩ : ByteArray), (⟨#[125]⟩ : ByteArray), (⟨#[44]⟩ : ByteArray), (⟨#[59]⟩ : ByteArray), (⟨#[58]⟩ : ByteArray), (⟨#[61]⟩ : ByteArray), (⟨#[43]⟩ : ByteArray), (⟨#[45]⟩ : ByteArray), (⟨#[42]⟩ : ByteArray), (⟨#[47]⟩ : ByteArray), (⟨#[60]⟩ : ByteArray), (⟨#[33]⟩ : ByteArray)]), gb1⟩
theorem strings_HasPrefix_u (l : List UInt8) (x : ByteArray) (w : World) : Calls Tryz.prog 72 ([.string (bs l), .string x] : List Value).toArray w fun e w' => e = .returned (.bool (preB l x)) ∧ w = w' := by
 have h := Tryz.strings_HasPrefix (bs l) x w
 rw [bs_list] at h
 exact h.mono fun e w' hq => ⟨hq.1, hq.2.symm⟩
theorem signC_any (x : ByteArray) (b0 : Nat) (l : List UInt8) (w : World) (hb0 : w.heap[b0]? = some (.cells #[.string (bs l)] 9)) :
  Calls Tryz.prog 71 ([.string x, .pointer (some ⟨b0, 0, none⟩)] : List Value).toArray w fun e w' => e = .returned (.bool (preB l x)) ∧ w = w' := by
 refine At.enter (N := 7) Tryz.func71 rfl rfl (by simp) [(0, .string x), (1, .pointer (some ⟨b0, 0, none⟩))] (by simp) ?_
 refine .seq (.region (.assign rfl rfl (.ops0 (.thenN (.seq (.region (.load rfl (Ld.ownCell ag9 hb0 rfl) rfl (.move rfl rfl ?_))))))))
 refine At.call en72 rfl rfl (strings_HasPrefix_u l x _) (fun e w' hR => ?_)
 obtain ⟨rfl, rfl⟩ := hR
 refine ⟨_, rfl, ?_⟩
 refine .assign rfl rfl (.ops0 (.thenN (.retc (.doneR (ResV.tmp rfl ResV.nil) ?_))))
 exact ⟨rfl, rfl⟩
theorem indexS_any (v : Value) (ss : List ByteArray) (c : FuncId) (cap : List Value) (p : ByteArray → Bool) (w : World) (hv : StrsAt w v ss) (hl : ss.length ≤ 9223372036854775807) (hent : entB Tryz.prog c = true) (hclo : ∀ (x : ByteArray) (w1 : World), Below w.heap.size w w1 → Calls Tryz.prog c ([.string x] ++ cap : List Value).toArray w1 fun e w2 => e = .returned (.bool (p x)) ∧ Below w1.heap.size w1 w2) :
  Calls Tryz.prog 70 ([v, .func (.func c) #[] cap.toArray] : List Value).toArray w fun e w' => e = .returned (.int .i64 (idxI p ss)) ∧ Below w.heap.size w w' := by
 have hB := Below.refl w.heap.size w
 refine At.enter (N := 19) Tryz.func70 rfl rfl (by simp) [(0, v), (1, .func (.func c) #[] cap.toArray)] (by simp) ?_
 refine .seq (.region (.assign rfl rfl (.ops0 (.thenN (.seq (.seq (.region (.move rfl rfl (.lenSl rfl (hv).ok el25 rfl (.move rfl rfl (.ops0 (.thenN (.block ?_)))))))))))))
 refine At.loop (Nat) (fun k => [(0, v), (1, .func (.func c) #[] cap.toArray), (7, .int .i64 (ss.length : Int)), (8, .int .i64 (k : Int))]) (fun k w1 => Below w.heap.size w w1 ∧ (k ≤ ss.length) ∧ (∀ i x, i < k → ss[i]? = some x → p x = false)) (fun k => ss.length - k) (0 : Nat) (sC rfl (sC rfl (sC rfl (sC rfl sN)))) ⟨hB, (Nat.zero_le _), (fun j x hj => absurd hj (Nat.not_lt_zero j))⟩ (fun k w1 hI => ?_)
 clear hB
 obtain ⟨hB, hk, hn⟩ := hI
 show At _ _ [(0, v), (1, .func (.func c) #[] cap.toArray), (7, .int .i64 (ss.length : Int)), (8, .int .i64 (k : Int))] _ _
 refine .seq (.region (.lss rfl rfl rfl (.ops0 (.thenN (.seq ?_)))))
 refine At.cond (b := decide ((k : Int) < (ss.length : Int))) rfl (fun hc1 => ?_) (fun hc1 => ?_)
 ·skip
  have hc1' := of_decide_eq_true hc1
  refine .skip (.thenN (.seq (.block (.seq (.region (.move rfl rfl (.assign rfl rfl (.ops0 (.thenN (.seq (.region (.move rfl rfl (.move rfl rfl (.move rfl rfl ?_))))))))))))))
  obtain ⟨u1, hu1⟩ := some_of_lt (l := ss) (i := k) (by omega)
  refine .indexAddr (i := k) rfl rfl (hv).ok (lt_of_some hu1) el25 sz9 rfl (.load rfl (Ld.cell ag9 (cell_keep ((hv).get hu1) hB)) rfl ?_)
  refine At.callV rfl hent rfl rfl (hclo u1 _ hB) (fun e w2 hR => ?_)
  obtain ⟨rfl, hbl1⟩ := hR
  refine ⟨_, rfl, ?_⟩
  replace hB := Below.andThen hB hbl1
  refine .ops0 (.thenN ?_)
  refine At.cond (b := (p u1)) rfl (fun hc2 => ?_) (fun hc2 => ?_)
  ·skip
   refine .seq (.region (.move rfl rfl (.assign rfl rfl (.ops0 (.thenN (.retc (.inR (.thenR (.thenR (.inR (.thenR (.doneR (ResV.tmp rfl ResV.nil) ?_))))))))))))
   exact ⟨congrArg Ending.returned (congrArg (Value.int .i64) (idxI_yes hu1 hc2 hn).symm), hB⟩
  refine .skip (.inN (.thenN (.region (.addI rfl rfl rfl (by omega) (.move rfl rfl (.ops0 (.thenN ?_)))))))
  exact fun act_ hact_ => ⟨(k + 1), hact_.sub (sC rfl (sC rfl (sC rfl (sC rfl sN)))), ⟨hB, (by omega), (next_no hn hu1 hc2)⟩, by first | omega | (dsimp only; omega)⟩
 have hc1' := of_decide_eq_false hc1
 refine .exit (.thenE (.thenE (.inE (.thenN (.seq (.region (.assign rfl rfl (.ops0 (.thenN (.retc (.doneR (ResV.tmp rfl ResV.nil) ?_)))))))))))
 exact ⟨congrArg Ending.returned (congrArg (Value.int .i64) (idxI_no (by omega) hn).symm), hB⟩
theorem sign_any (l : List UInt8) (w : World)  :
  Calls Tryz.prog 55 ([.string (bs l)] : List Value).toArray w fun e w' => e = .returned (signV l) ∧ Below w.heap.size w w' := by
 have hB := Below.refl w.heap.size w
 refine At.enter (N := 24) Tryz.func55 rfl rfl (by simp) [(0, .string (bs l))] (by simp) ?_
 refine .seq (.region ?_)
 refine At.box rfl rfl (fun b1 w1 F1 => ?_)
 have hb1 : w1.heap[b1]? = some (.cells #[.string (bs l)] 9) := F1.new
 replace hB := F1.below' hB
 refine At.alloc ze141 rfl (fun b2 w2 F2 => ?_)
 have n_b1_b2 := F2.ne' hb1
 have gb2 := F2.ge hB
 replace hb1 := F2.old hb1
 have hb2 : w2.heap[b2]? = some (.cells #[.int .i64 0, .string (⟨#[]⟩ : ByteArray), .int .i64 0, .int .i64 0] 141) := F2.new
 replace hB := F2.below' hB
 refine .assign rfl rfl (.assign rfl rfl (.ops0 (.thenN (.seq (.region ?_)))))
 refine At.call en69 rfl rfl (signs_any _) (fun e w3 hR => ?_)
 obtain ⟨vs1, rfl, hbl1, hst1, hnb1⟩ := hR
 refine ⟨_, rfl, ?_⟩
 have nb_hst1_b1 : vBlock vs1 ≠ b1 := Nat.ne_of_gt (Nat.lt_of_lt_of_le (Array.getElem?_eq_some_iff.1 hb1).1 hnb1)
 have nb_hst1_b2 : vBlock vs1 ≠ b2 := Nat.ne_of_gt (Nat.lt_of_lt_of_le (Array.getElem?_eq_some_iff.1 hb2).1 hnb1)
 replace hb1 := Below.old hbl1 hb1
 replace hb2 := Below.old hbl1 hb2
 replace hB := Below.andThen hB hbl1
 refine .assign rfl rfl (.ops0 (.thenN (.seq (.region (.move rfl rfl (.makeFunc rfl rfl ?_))))))
 refine At.call en70 rfl rfl (indexS_any vs1 signsS 71 [.pointer (some ⟨b1, 0, none⟩)] (preB l) _ ((hst1).keep (Below.refl _ _)) (by decide) en71 (fun x w1 hw => (signC_any x b1 l w1 (Below.old hw hb1)).mono fun e w2 hq => ⟨hq.1, hq.2 ▸ Below.refl _ _⟩)) (fun e w4 hR => ?_)
 obtain ⟨rfl, hbl2⟩ := hR
 refine ⟨_, rfl, ?_⟩
 replace hb1 := Below.old hbl2 hb1
 replace hb2 := Below.old hbl2 hb2
 replace hst1 := hst1.below hbl2
 replace hB := Below.andThen hB hbl2
 refine .assign rfl rfl (.ops0 (.thenN (.seq (.seq (.region (.move rfl rfl (.lss rfl rfl rfl (.ops0 (.thenN ?_)))))))))
 refine At.cond (b := decide ((idxI (preB l) signsS) < 0)) rfl (fun hc1 => ?_) (fun hc1 => ?_)
 ·skip
  have hc1' := of_decide_eq_true hc1
  refine .seq (.region (.build (C := #[.int .i64 0, .string (⟨#[]⟩ : ByteArray), .int .i64 0, .int .i64 0]) sd141 ze141 rfl (Bld.nil _) rfl ?_))
  refine At.storeAll rfl rfl hb2 sz141 rfl (by simp [Value.oneCell']) (fun w5 S1 => ?_)
  clear hst1
  replace hb2 : w5.heap[b2]? = some (.cells #[.int .i64 0, .string (⟨#[]⟩ : ByteArray), .int .i64 0, .int .i64 0] 141) := S1.new
  replace hB := S1.below' hB gb2
  refine .assign rfl rfl (.assign rfl rfl (.ops0 (.thenN (.retc (.thenR (.doneR (ResV.cell rfl (Ld.own (C := #[.int .i64 0, .string (⟨#[]⟩ : ByteArray), .int .i64 0, .int .i64 0]) ag141 sz141 hb2) (ResV.tmp rfl (ResV.tmp rfl ResV.nil))) ?_))))))
  exact ⟨congrArg Ending.returned (signV_none (idx_none (by omega))).symm, hB⟩
 have hc1' := of_decide_eq_false hc1
 refine .skip (.thenN (.seq ?_))
 obtain ⟨j, x, hj, hjx, hfx⟩ := idx_some (p := preB l) (l := signsS) (by omega)
 refine .set (d := 6) (u := .int .i64 (j : Int)) rfl (congrArg (Value.int .i64) hj) ?_
 refine At.draw mixed [(2, .pointer (some ⟨b2, 0, none⟩)), (5, vs1), (6, .int .i64 (j : Int))] (sC rfl (sC rfl (sC rfl sN))) rfl (RS ([(b2, .cells #[.int .i64 5, .string x, .int .i64 0, .int .i64 0] 141)] : List (Nat × Obj))) (dF [.c (vs1), .c (.int .i64 (j : Int)), .c (.pointer (some ⟨vBlock vs1, vOff vs1 + j * 1, none⟩)), .c (.string x), .c (.agg #[.int .i64 5, .string x, .int .i64 0, .int .i64 0]), .c (vs1), .c (.int .i64 (j : Int)), .c (.pointer (some ⟨vBlock vs1, vOff vs1 + j * 1, none⟩)), .c (.string x), .c (.int .i64 (x.size : Int)), .s b2 (.cells #[.int .i64 5, .string x, .int .i64 0, .int .i64 0] 141), .c (.int .i64 (x.size : Int)), .c (.bool true)]) (RS.drew _ _) RS.trans (dF.stab (by simp)) ⟨?_, ?_, ?_, ?_, ?_, ?_, ?_, ?_, ?_, ?_, ?_, ?_, ?_, trivial⟩ (fun vals w' hRS hf => ?_)
 ·intro vals Lx w1 hRS hpre
  have hB := RS.below hRS hB (by intro p hp; simp only [List.mem_cons, List.not_mem_nil, or_false] at hp; rcases hp with rfl <;> assumption)
  have hb1 := hRS.old _ _ (by intro p hp; simp only [List.mem_cons, List.not_mem_nil, or_false] at hp; rcases hp with rfl; exact n_b1_b2) hb1
  obtain ⟨c_b2, hb2, z_b2⟩ := hRS.shape (b2, .cells #[.int .i64 5, .string x, .int .i64 0, .int .i64 0] 141) (by simp) _ _ hb2
  have hst1 := StrsAt.rs hst1 hRS (by intro p hp; simp only [List.mem_cons, List.not_mem_nil, or_false] at hp; rcases hp with rfl; exact nb_hst1_b2)
  refine .move rfl rfl (.ops0 ?_)
  exact fun a ha => ⟨_, ha, RS.refl _ _, rfl⟩
 ·intro vals Lx w1 hRS hpre
  have hB := RS.below hRS hB (by intro p hp; simp only [List.mem_cons, List.not_mem_nil, or_false] at hp; rcases hp with rfl <;> assumption)
  have hb1 := hRS.old _ _ (by intro p hp; simp only [List.mem_cons, List.not_mem_nil, or_false] at hp; rcases hp with rfl; exact n_b1_b2) hb1
  obtain ⟨c_b2, hb2, z_b2⟩ := hRS.shape (b2, .cells #[.int .i64 5, .string x, .int .i64 0, .int .i64 0] 141) (by simp) _ _ hb2
  have hst1 := StrsAt.rs hst1 hRS (by intro p hp; simp only [List.mem_cons, List.not_mem_nil, or_false] at hp; rcases hp with rfl; exact nb_hst1_b2)
  refine .move rfl rfl (.ops0 ?_)
  exact fun a ha => ⟨_, ha, RS.refl _ _, rfl⟩
 ·intro vals Lx w1 hRS hpre
  have hB := RS.below hRS hB (by intro p hp; simp only [List.mem_cons, List.not_mem_nil, or_false] at hp; rcases hp with rfl <;> assumption)
  have hb1 := hRS.old _ _ (by intro p hp; simp only [List.mem_cons, List.not_mem_nil, or_false] at hp; rcases hp with rfl; exact n_b1_b2) hb1
  obtain ⟨c_b2, hb2, z_b2⟩ := hRS.shape (b2, .cells #[.int .i64 5, .string x, .int .i64 0, .int .i64 0] 141) (by simp) _ _ hb2
  have hst1 := StrsAt.rs hst1 hRS (by intro p hp; simp only [List.mem_cons, List.not_mem_nil, or_false] at hp; rcases hp with rfl; exact nb_hst1_b2)
  have p0 : vals 0 = vs1 := hpre 0 (by decide)
  refine .set (d := 14) (v := vals 0) rfl p0 ?_
  have p1 : vals 1 = .int .i64 (j : Int) := hpre 1 (by decide)
  refine .set (d := 15) (v := vals 1) rfl p1 (.indexAddr (i := j) rfl rfl (hst1).ok (lt_of_some hjx) el25 sz9 rfl (.ops0 ?_))
  exact fun a ha => ⟨_, ((ha).drop2 (congrArg some p1)).drop2 (congrArg some p0), RS.refl _ _, rfl⟩
 ·intro vals Lx w1 hRS hpre
  have hB := RS.below hRS hB (by intro p hp; simp only [List.mem_cons, List.not_mem_nil, or_false] at hp; rcases hp with rfl <;> assumption)
  have hb1 := hRS.old _ _ (by intro p hp; simp only [List.mem_cons, List.not_mem_nil, or_false] at hp; rcases hp with rfl; exact n_b1_b2) hb1
  obtain ⟨c_b2, hb2, z_b2⟩ := hRS.shape (b2, .cells #[.int .i64 5, .string x, .int .i64 0, .int .i64 0] 141) (by simp) _ _ hb2
  have hst1 := StrsAt.rs hst1 hRS (by intro p hp; simp only [List.mem_cons, List.not_mem_nil, or_false] at hp; rcases hp with rfl; exact nb_hst1_b2)
  have p2 : vals 2 = .pointer (some ⟨vBlock vs1, vOff vs1 + j * 1, none⟩) := hpre 2 (by decide)
  refine .set (d := 16) (v := vals 2) rfl p2 (.load rfl (Ld.cell ag9 (cell_keep ((hst1).get hjx) (Below.refl _ _))) rfl (.ops0 ?_))
  exact fun a ha => ⟨_, (ha).drop2 (congrArg some p2), RS.refl _ _, rfl⟩
 ·intro vals Lx w1 hRS hpre
  have hB := RS.below hRS hB (by intro p hp; simp only [List.mem_cons, List.not_mem_nil, or_false] at hp; rcases hp with rfl <;> assumption)
  have hb1 := hRS.old _ _ (by intro p hp; simp only [List.mem_cons, List.not_mem_nil, or_false] at hp; rcases hp with rfl; exact n_b1_b2) hb1
  obtain ⟨c_b2, hb2, z_b2⟩ := hRS.shape (b2, .cells #[.int .i64 5, .string x, .int .i64 0, .int .i64 0] 141) (by simp) _ _ hb2
  have hst1 := StrsAt.rs hst1 hRS (by intro p hp; simp only [List.mem_cons, List.not_mem_nil, or_false] at hp; rcases hp with rfl; exact nb_hst1_b2)
  have p3 : vals 3 = .string x := hpre 3 (by decide)
  refine .set (d := 17) (v := vals 3) rfl p3 (.build (C := #[.int .i64 5, .string x, .int .i64 0, .int .i64 0]) sd141 ze141 rfl (Bld.cons fo141_0 rfl (lB rfl) (Bld.cons fo141_1 rfl (lB rfl) (Bld.nil _))) rfl (.ops0 ?_))
  exact fun a ha => ⟨_, (ha).drop2 (congrArg some p3), RS.refl _ _, rfl⟩
 ·intro vals Lx w1 hRS hpre
  have hB := RS.below hRS hB (by intro p hp; simp only [List.mem_cons, List.not_mem_nil, or_false] at hp; rcases hp with rfl <;> assumption)
  have hb1 := hRS.old _ _ (by intro p hp; simp only [List.mem_cons, List.not_mem_nil, or_false] at hp; rcases hp with rfl; exact n_b1_b2) hb1
  obtain ⟨c_b2, hb2, z_b2⟩ := hRS.shape (b2, .cells #[.int .i64 5, .string x, .int .i64 0, .int .i64 0] 141) (by simp) _ _ hb2
  have hst1 := StrsAt.rs hst1 hRS (by intro p hp; simp only [List.mem_cons, List.not_mem_nil, or_false] at hp; rcases hp with rfl; exact nb_hst1_b2)
  refine .move rfl rfl (.ops0 ?_)
  exact fun a ha => ⟨_, ha, RS.refl _ _, rfl⟩
 ·intro vals Lx w1 hRS hpre
  have hB := RS.below hRS hB (by intro p hp; simp only [List.mem_cons, List.not_mem_nil, or_false] at hp; rcases hp with rfl <;> assumption)
  have hb1 := hRS.old _ _ (by intro p hp; simp only [List.mem_cons, List.not_mem_nil, or_false] at hp; rcases hp with rfl; exact n_b1_b2) hb1
  obtain ⟨c_b2, hb2, z_b2⟩ := hRS.shape (b2, .cells #[.int .i64 5, .string x, .int .i64 0, .int .i64 0] 141) (by simp) _ _ hb2
  have hst1 := StrsAt.rs hst1 hRS (by intro p hp; simp only [List.mem_cons, List.not_mem_nil, or_false] at hp; rcases hp with rfl; exact nb_hst1_b2)
  refine .move rfl rfl (.ops0 ?_)
  exact fun a ha => ⟨_, ha, RS.refl _ _, rfl⟩
 ·intro vals Lx w1 hRS hpre
  have hB := RS.below hRS hB (by intro p hp; simp only [List.mem_cons, List.not_mem_nil, or_false] at hp; rcases hp with rfl <;> assumption)
  have hb1 := hRS.old _ _ (by intro p hp; simp only [List.mem_cons, List.not_mem_nil, or_false] at hp; rcases hp with rfl; exact n_b1_b2) hb1
  obtain ⟨c_b2, hb2, z_b2⟩ := hRS.shape (b2, .cells #[.int .i64 5, .string x, .int .i64 0, .int .i64 0] 141) (by simp) _ _ hb2
  have hst1 := StrsAt.rs hst1 hRS (by intro p hp; simp only [List.mem_cons, List.not_mem_nil, or_false] at hp; rcases hp with rfl; exact nb_hst1_b2)
  have p5 : vals 5 = vs1 := hpre 5 (by decide)
  refine .set (d := 19) (v := vals 5) rfl p5 ?_
  have p6 : vals 6 = .int .i64 (j : Int) := hpre 6 (by decide)
  refine .set (d := 20) (v := vals 6) rfl p6 (.indexAddr (i := j) rfl rfl (hst1).ok (lt_of_some hjx) el25 sz9 rfl (.ops0 ?_))
  exact fun a ha => ⟨_, ((ha).drop2 (congrArg some p6)).drop2 (congrArg some p5), RS.refl _ _, rfl⟩
 ·intro vals Lx w1 hRS hpre
  have hB := RS.below hRS hB (by intro p hp; simp only [List.mem_cons, List.not_mem_nil, or_false] at hp; rcases hp with rfl <;> assumption)
  have hb1 := hRS.old _ _ (by intro p hp; simp only [List.mem_cons, List.not_mem_nil, or_false] at hp; rcases hp with rfl; exact n_b1_b2) hb1
  obtain ⟨c_b2, hb2, z_b2⟩ := hRS.shape (b2, .cells #[.int .i64 5, .string x, .int .i64 0, .int .i64 0] 141) (by simp) _ _ hb2
  have hst1 := StrsAt.rs hst1 hRS (by intro p hp; simp only [List.mem_cons, List.not_mem_nil, or_false] at hp; rcases hp with rfl; exact nb_hst1_b2)
  have p7 : vals 7 = .pointer (some ⟨vBlock vs1, vOff vs1 + j * 1, none⟩) := hpre 7 (by decide)
  refine .set (d := 21) (v := vals 7) rfl p7 (.load rfl (Ld.cell ag9 (cell_keep ((hst1).get hjx) (Below.refl _ _))) rfl (.ops0 ?_))
  exact fun a ha => ⟨_, (ha).drop2 (congrArg some p7), RS.refl _ _, rfl⟩
 ·intro vals Lx w1 hRS hpre
  have hB := RS.below hRS hB (by intro p hp; simp only [List.mem_cons, List.not_mem_nil, or_false] at hp; rcases hp with rfl <;> assumption)
  have hb1 := hRS.old _ _ (by intro p hp; simp only [List.mem_cons, List.not_mem_nil, or_false] at hp; rcases hp with rfl; exact n_b1_b2) hb1
  obtain ⟨c_b2, hb2, z_b2⟩ := hRS.shape (b2, .cells #[.int .i64 5, .string x, .int .i64 0, .int .i64 0] 141) (by simp) _ _ hb2
  have hst1 := StrsAt.rs hst1 hRS (by intro p hp; simp only [List.mem_cons, List.not_mem_nil, or_false] at hp; rcases hp with rfl; exact nb_hst1_b2)
  have p8 : vals 8 = .string x := hpre 8 (by decide)
  refine .set (d := 22) (v := vals 8) rfl p8 (.lenStr rfl st9 rfl (.ops0 ?_))
  exact fun a ha => ⟨_, (ha).drop2 (congrArg some p8), RS.refl _ _, rfl⟩
 ·intro vals Lx w1 hRS hpre
  have hB := RS.below hRS hB (by intro p hp; simp only [List.mem_cons, List.not_mem_nil, or_false] at hp; rcases hp with rfl <;> assumption)
  have hb1 := hRS.old _ _ (by intro p hp; simp only [List.mem_cons, List.not_mem_nil, or_false] at hp; rcases hp with rfl; exact n_b1_b2) hb1
  obtain ⟨c_b2, hb2, z_b2⟩ := hRS.shape (b2, .cells #[.int .i64 5, .string x, .int .i64 0, .int .i64 0] 141) (by simp) _ _ hb2
  have hst1 := StrsAt.rs hst1 hRS (by intro p hp; simp only [List.mem_cons, List.not_mem_nil, or_false] at hp; rcases hp with rfl; exact nb_hst1_b2)
  have p4 : vals 4 = .agg #[.int .i64 5, .string x, .int .i64 0, .int .i64 0] := hpre 4 (by decide)
  refine .set (d := 18) (v := vals 4) rfl p4 ?_
  have p0 : vals 0 = vs1 := hpre 0 (by decide)
  refine .set (d := 14) (v := vals 0) rfl p0 ?_
  have p1 : vals 1 = .int .i64 (j : Int) := hpre 1 (by decide)
  refine .set (d := 15) (v := vals 1) rfl p1 ?_
  have p2 : vals 2 = .pointer (some ⟨vBlock vs1, vOff vs1 + j * 1, none⟩) := hpre 2 (by decide)
  refine .set (d := 16) (v := vals 2) rfl p2 ?_
  have p3 : vals 3 = .string x := hpre 3 (by decide)
  refine .set (d := 17) (v := vals 3) rfl p3 ?_
  have hb2_old := hb2
  have z_b2_eq := ((z_b2.trans (rfl))).symm
  refine At.storeAll rfl rfl hb2 sz141 (z_b2.trans (rfl)) (by simp [Value.oneCell']) (fun w6 S2 => ?_)
  replace hb1 := S2.other hb1 n_b1_b2
  clear hst1
  replace hb2 : w6.heap[b2]? = some (.cells #[.int .i64 5, .string x, .int .i64 0, .int .i64 0] 141) := S2.new
  replace hB := S2.below' hB gb2
  refine .ops0 ?_
  exact fun a ha => ⟨undef, (((((ha).drop1 (congrArg some p3)).drop1 (congrArg some p2)).drop1 (congrArg some p1)).drop1 (congrArg some p0)).drop1 (congrArg some p4), RS.of_set S2 (by simp) hb2_old (z_b2_eq) (by intro p hp e; simp only [List.mem_cons, List.not_mem_nil, or_false] at hp; rcases hp with rfl <;> first | rfl | (exfalso; revert e; assumption) | (exfalso; exact absurd e.symm (by assumption))), hb2⟩
 ·intro vals Lx w1 hRS hpre
  have hB := RS.below hRS hB (by intro p hp; simp only [List.mem_cons, List.not_mem_nil, or_false] at hp; rcases hp with rfl <;> assumption)
  have hb1 := hRS.old _ _ (by intro p hp; simp only [List.mem_cons, List.not_mem_nil, or_false] at hp; rcases hp with rfl; exact n_b1_b2) hb1
  obtain ⟨c_b2, hb2, z_b2⟩ := hRS.shape (b2, .cells #[.int .i64 5, .string x, .int .i64 0, .int .i64 0] 141) (by simp) _ _ hb2
  have hst1 := StrsAt.rs hst1 hRS (by intro p hp; simp only [List.mem_cons, List.not_mem_nil, or_false] at hp; rcases hp with rfl; exact nb_hst1_b2)
  have p9 : vals 9 = .int .i64 (x.size : Int) := hpre 9 (by decide)
  refine .set (d := 23) (v := vals 9) rfl p9 ?_
  have p0 : vals 0 = vs1 := hpre 0 (by decide)
  refine .set (d := 14) (v := vals 0) rfl p0 ?_
  have p1 : vals 1 = .int .i64 (j : Int) := hpre 1 (by decide)
  refine .set (d := 15) (v := vals 1) rfl p1 ?_
  have p2 : vals 2 = .pointer (some ⟨vBlock vs1, vOff vs1 + j * 1, none⟩) := hpre 2 (by decide)
  refine .set (d := 16) (v := vals 2) rfl p2 ?_
  have p3 : vals 3 = .string x := hpre 3 (by decide)
  refine .set (d := 17) (v := vals 3) rfl p3 ?_
  have p4 : vals 4 = .agg #[.int .i64 5, .string x, .int .i64 0, .int .i64 0] := hpre 4 (by decide)
  refine .set (d := 18) (v := vals 4) rfl p4 ?_
  have p5 : vals 5 = vs1 := hpre 5 (by decide)
  refine .set (d := 19) (v := vals 5) rfl p5 ?_
  have p6 : vals 6 = .int .i64 (j : Int) := hpre 6 (by decide)
  refine .set (d := 20) (v := vals 6) rfl p6 ?_
  have p7 : vals 7 = .pointer (some ⟨vBlock vs1, vOff vs1 + j * 1, none⟩) := hpre 7 (by decide)
  refine .set (d := 21) (v := vals 7) rfl p7 ?_
  have p8 : vals 8 = .string x := hpre 8 (by decide)
  refine .set (d := 22) (v := vals 8) rfl p8 (.assign rfl rfl (.ops0 ?_))
  exact fun a ha => ⟨_, ((((((((((ha).drop2 (congrArg some p8)).drop2 (congrArg some p7)).drop2 (congrArg some p6)).drop2 (congrArg some p5)).drop2 (congrArg some p4)).drop2 (congrArg some p3)).drop2 (congrArg some p2)).drop2 (congrArg some p1)).drop2 (congrArg some p0)).drop2 (congrArg some p9), RS.refl _ _, rfl⟩
 ·intro vals Lx w1 hRS hpre
  have hB := RS.below hRS hB (by intro p hp; simp only [List.mem_cons, List.not_mem_nil, or_false] at hp; rcases hp with rfl <;> assumption)
  have hb1 := hRS.old _ _ (by intro p hp; simp only [List.mem_cons, List.not_mem_nil, or_false] at hp; rcases hp with rfl; exact n_b1_b2) hb1
  obtain ⟨c_b2, hb2, z_b2⟩ := hRS.shape (b2, .cells #[.int .i64 5, .string x, .int .i64 0, .int .i64 0] 141) (by simp) _ _ hb2
  have hst1 := StrsAt.rs hst1 hRS (by intro p hp; simp only [List.mem_cons, List.not_mem_nil, or_false] at hp; rcases hp with rfl; exact nb_hst1_b2)
  have p11 : vals 11 = .int .i64 (x.size : Int) := hpre 11 (by decide)
  refine .set (d := 3) (v := vals 11) rfl p11 ?_
  have p0 : vals 0 = vs1 := hpre 0 (by decide)
  refine .set (d := 14) (v := vals 0) rfl p0 ?_
  have p1 : vals 1 = .int .i64 (j : Int) := hpre 1 (by decide)
  refine .set (d := 15) (v := vals 1) rfl p1 ?_
  have p2 : vals 2 = .pointer (some ⟨vBlock vs1, vOff vs1 + j * 1, none⟩) := hpre 2 (by decide)
  refine .set (d := 16) (v := vals 2) rfl p2 ?_
  have p3 : vals 3 = .string x := hpre 3 (by decide)
  refine .set (d := 17) (v := vals 3) rfl p3 ?_
  have p4 : vals 4 = .agg #[.int .i64 5, .string x, .int .i64 0, .int .i64 0] := hpre 4 (by decide)
  refine .set (d := 18) (v := vals 4) rfl p4 ?_
  have p5 : vals 5 = vs1 := hpre 5 (by decide)
  refine .set (d := 19) (v := vals 5) rfl p5 ?_
  have p6 : vals 6 = .int .i64 (j : Int) := hpre 6 (by decide)
  refine .set (d := 20) (v := vals 6) rfl p6 ?_
  have p7 : vals 7 = .pointer (some ⟨vBlock vs1, vOff vs1 + j * 1, none⟩) := hpre 7 (by decide)
  refine .set (d := 21) (v := vals 7) rfl p7 ?_
  have p8 : vals 8 = .string x := hpre 8 (by decide)
  refine .set (d := 22) (v := vals 8) rfl p8 ?_
  have p9 : vals 9 = .int .i64 (x.size : Int) := hpre 9 (by decide)
  refine .set (d := 23) (v := vals 9) rfl p9 (.assign rfl rfl (.ops0 ?_))
  exact fun a ha => ⟨_, (((((((((((ha).drop2 (congrArg some p9)).drop2 (congrArg some p8)).drop2 (congrArg some p7)).drop2 (congrArg some p6)).drop2 (congrArg some p5)).drop2 (congrArg some p4)).drop2 (congrArg some p3)).drop2 (congrArg some p2)).drop2 (congrArg some p1)).drop2 (congrArg some p0)).drop2 (congrArg some p11), RS.refl _ _, rfl⟩
 have hB := RS.below hRS hB (by intro p hp; simp only [List.mem_cons, List.not_mem_nil, or_false] at hp; rcases hp with rfl <;> assumption)
 have hb1 := hRS.old _ _ (by intro p hp; simp only [List.mem_cons, List.not_mem_nil, or_false] at hp; rcases hp with rfl; exact n_b1_b2) hb1
 have hst1 := StrsAt.rs hst1 hRS (by intro p hp; simp only [List.mem_cons, List.not_mem_nil, or_false] at hp; rcases hp with rfl; exact nb_hst1_b2)
 have hb2 : w'.heap[b2]? = some (.cells #[.int .i64 5, .string x, .int .i64 0, .int .i64 0] 141) := hf 10 (by decide)
 have p11 : vals 11 = .int .i64 (x.size : Int) := hf 11 (by decide)
 have p12 : vals 12 = .bool true := hf 12 (by decide)
 refine .sub (L' := [(2, .pointer (some ⟨b2, 0, none⟩)), (5, vs1), (6, .int .i64 (j : Int)), (3, .int .i64 (x.size : Int)), (4, .bool true)]) (sC rfl (sC rfl (sC rfl (Sub.cons (congrArg some p11) (Sub.cons (congrArg some p12) sN))))) (.thenN (.retc (.doneR (ResV.cell rfl (Ld.own (C := #[.int .i64 5, .string x, .int .i64 0, .int .i64 0]) ag141 sz141 hb2) (ResV.tmp rfl (ResV.tmp rfl ResV.nil))) ?_)))
 exact ⟨congrArg Ending.returned (signV_some hfx).symm, hB⟩
theorem ag132 : aggB Tryz.prog 132 = some false := by kernel_rfl
theorem ag133 : aggB Tryz.prog 133 = some false := by kernel_rfl
theorem ag135 : aggB Tryz.prog 135 = some true := by kernel_rfl
theorem el136 : elemB Tryz.prog 136 = some 135 := by kernel_rfl
theorem en51 : entB Tryz.prog 51 = true := by kernel_rfl
theorem en53 : entB Tryz.prog 53 = true := by kernel_rfl
theorem en54 : entB Tryz.prog 54 = true := by kernel_rfl
theorem en55 : entB Tryz.prog 55 = true := by kernel_rfl
theorem en56 : entB Tryz.prog 56 = true := by kernel_rfl
theorem en57 : entB Tryz.prog 57 = true := by kernel_rfl
theorem en58 : entB Tryz.prog 58 = true := by kernel_rfl
theorem fo135_0 : fieldB Tryz.prog 135 0 = some (0, 1) := by kernel_rfl
theorem fo135_1 : fieldB Tryz.prog 135 1 = some (1, 1) := by kernel_rfl
theorem sd135 : sizedB Tryz.prog 135 = true := by kernel_rfl
theorem sz135 : sizeB Tryz.prog 135 = some 2 := by kernel_rfl
theorem ze135 : zeroB Tryz.prog 135 = some (.agg #[.nilFunc, .nilFunc]) := by kernel_rfl
theorem ent_b (r : Rl) : entB Tryz.prog r.b = true := by cases r; exact en50; exact en52; exact en54
theorem ent_t (r : Rl) : entB Tryz.prog r.t = true := by cases r; exact en51; exact en53; exact en55
theorem beg_any (r : Rl) (u : UInt8) (w : World) : Calls Tryz.prog r.b ([.int .u8 (u.toNat : Int)] : List Value).toArray w fun e w' => e = .returned (.bool (begB r u)) ∧ w = w' := by
 cases r
 ·exact digit_any u w
 ·exact letter_any u w
 ·exact anyC_any u w
theorem take_any (r : Rl) (l : List UInt8) (m : Int) (w : World) (hl : l.length ≤ 1099511627776) (h0 : l ≠ []) (hm : w.cell? ⟨0, 0, none⟩ = some (.int .i64 m)) : Calls Tryz.prog r.t ([.string (bs l)] : List Value).toArray w fun e w' => e = .returned (takR r l).val ∧ Below w.heap.size w w' := by
 cases r
 ·exact (number_any l w hl).mono fun e w' h => ⟨by rw [h.1, numV_eq]; rfl, h.2⟩
 ·exact (name_any l m w hl h0 hm).mono fun e w' h => ⟨by rw [h.1, nameV_eq]; rfl, h.2⟩
 ·exact (sign_any l w).mono fun e w' h => ⟨by rw [h.1, signV_eq]; rfl, h.2⟩
theorem pick_any (r : Rl) (p0 p1 : Nat) (l : List UInt8) (a : Nat) (u : UInt8) (w : World) (hp0 : w.heap[p0]? = some (.cells #[.string (bs l)] 9)) (hp1 : w.heap[p1]? = some (.cells #[.int .i64 (a : Int)] 3)) (hu : l[a]? = some u) :
  Calls Tryz.prog 58 ([.agg r.cs, .pointer (some ⟨p0, 0, none⟩), .pointer (some ⟨p1, 0, none⟩)] : List Value).toArray w fun e w' => e = .returned (.bool (begB r u)) ∧ Below w.heap.size w w' := by
 have hB := Below.refl w.heap.size w
 refine At.enter (N := 11) Tryz.func58 rfl rfl (by simp) [(0, .agg r.cs), (1, .pointer (some ⟨p0, 0, none⟩)), (2, .pointer (some ⟨p1, 0, none⟩))] (by simp) ?_
 refine .seq (.region ?_)
 refine At.box rfl rfl (fun b1 w1 F1 => ?_)
 replace hp0 := F1.old hp0
 replace hp1 := F1.old hp1
 have hb1 : w1.heap[b1]? = some (.cells r.cs 135) := F1.new
 replace hB := F1.below' hB
 refine .assign rfl rfl (.ops0 (.thenN (.seq (.drawG (n := 7) mixed (by kernel_rfl) rfl (PanicOk.then PanicOk.body) ?_))))
 have hB := Below.drewB hB
 have hp0 : _ := (show w1.drew.heap[p0]? = _ from hp0)
 have hp1 : _ := (show w1.drew.heap[p1]? = _ from hp1)
 have hb1 : _ := (show w1.drew.heap[b1]? = _ from hb1)
 refine .wpcS (i := 0) (d := 5) (.pointer (some ⟨b1, 0 + 0, none⟩)) (by kernel_rfl) rfl rfl rfl (fun Lx => .fieldAddr rfl fo135_0 rfl (.ops0 fun a ha => ⟨ha, rfl⟩)) ?_
 refine .wpcS (i := 1) (d := 6) (.func (.func r.b) #[] ([] : List Value).toArray) (by kernel_rfl) rfl rfl rfl (fun Lx => .load rfl (Ld.ownCell ag132 hb1 ((rl_ok r)).c0) rfl (.ops0 fun a ha => ⟨ha, rfl⟩)) ?_
 refine .wpcS (i := 2) (d := 7) (.string (bs l)) (by kernel_rfl) rfl rfl rfl (fun Lx => .load rfl (Ld.ownCell ag9 hp0 rfl) rfl (.ops0 fun a ha => ⟨ha, rfl⟩)) ?_
 refine .wpcS (i := 3) (d := 8) (.int .i64 (a : Int)) (by kernel_rfl) rfl rfl rfl (fun Lx => .load rfl (Ld.ownCell ag3 hp1 rfl) rfl (.ops0 fun a ha => ⟨ha, rfl⟩)) ?_
 refine .wpcS (i := 4) (d := 9) (.int .u8 (u.toNat : Int)) (by kernel_rfl) rfl rfl rfl (fun Lx => .indexB (l := l) (i := a) rfl rfl hu st9 rfl (.ops0 fun a ha => ⟨ha, rfl⟩)) ?_
 refine At.wpcE [5] (by kernel_rfl) (by kernel_rfl) (.cons [] rfl (by kernel_rfl) ?_ .nil)
 refine At.callV rfl (ent_b r) rfl rfl (beg_any r u _) (fun e w' hR => ?_)
 obtain ⟨rfl, rfl⟩ := hR
 refine ⟨_, rfl, ?_⟩
 refine .ops0 (.wpcN .nil ?_)
 refine At.wpcE [6] (by kernel_rfl) (by kernel_rfl) (.cons [] rfl (by kernel_rfl) ?_ .nil)
 refine .assign rfl rfl (.ops0 (.wpcN .nil (.wpcZ (.thenN (.retc (.doneR (ResV.tmp rfl ResV.nil) ?_))))))
 exact ⟨rfl, hB⟩
theorem indexR_any (v : Value) (rs : List Rl) (c : FuncId) (cap : List Value) (p : Rl → Bool) (w : World) (hv : RowsAt w v 2 (rs.map Rl.cs)) (hl : rs.length ≤ 9223372036854775807) (hent : entB Tryz.prog c = true) (hclo : ∀ (x : Rl) (w1 : World), Below w.heap.size w w1 → Calls Tryz.prog c ([.agg x.cs] ++ cap : List Value).toArray w1 fun e w2 => e = .returned (.bool (p x)) ∧ Below w1.heap.size w1 w2) :
  Calls Tryz.prog 57 ([v, .func (.func c) #[] cap.toArray] : List Value).toArray w fun e w' => e = .returned (.int .i64 (idxI p rs)) ∧ Below w.heap.size w w' := by
 have hB := Below.refl w.heap.size w
 refine At.enter (N := 19) Tryz.func57 rfl rfl (by simp) [(0, v), (1, .func (.func c) #[] cap.toArray)] (by simp) ?_
 refine .seq (.region (.assign rfl rfl (.ops0 (.thenN (.seq (.seq (.region (.move rfl rfl (.lenSl rfl hv.okL el136 rfl (.move rfl rfl (.ops0 (.thenN (.block ?_)))))))))))))
 refine At.loop (Nat) (fun k => [(0, v), (1, .func (.func c) #[] cap.toArray), (7, .int .i64 (rs.length : Int)), (8, .int .i64 (k : Int))]) (fun k w1 => Below w.heap.size w w1 ∧ (k ≤ rs.length) ∧ (∀ i x, i < k → rs[i]? = some x → p x = false)) (fun k => rs.length - k) (0 : Nat) (sC rfl (sC rfl (sC rfl (sC rfl sN)))) ⟨hB, (Nat.zero_le _), (fun j x hj => absurd hj (Nat.not_lt_zero j))⟩ (fun k w1 hI => ?_)
 clear hB
 obtain ⟨hB, hk, hn⟩ := hI
 show At _ _ [(0, v), (1, .func (.func c) #[] cap.toArray), (7, .int .i64 (rs.length : Int)), (8, .int .i64 (k : Int))] _ _
 refine .seq (.region (.lss rfl rfl rfl (.ops0 (.thenN (.seq ?_)))))
 refine At.cond (b := decide ((k : Int) < (rs.length : Int))) rfl (fun hc1 => ?_) (fun hc1 => ?_)
 ·skip
  have hc1' := of_decide_eq_true hc1
  refine .skip (.thenN (.seq (.block (.seq (.region (.move rfl rfl (.assign rfl rfl (.ops0 (.thenN (.seq (.region (.move rfl rfl (.move rfl rfl (.move rfl rfl ?_))))))))))))))
  obtain ⟨u1, hu1⟩ := some_of_lt (l := rs) (i := k) (by omega)
  refine .indexAddr (i := k) rfl rfl hv.okL (lt_of_some hu1) el136 sz135 rfl (.load rfl (Ld.row ag135 (sz135.trans (congrArg some ((rl_ok u1)).size.symm)) (((hv).row hu1).keep hB)) rfl ?_)
  refine At.callV rfl hent rfl rfl (hclo u1 _ hB) (fun e w2 hR => ?_)
  obtain ⟨rfl, hbl1⟩ := hR
  refine ⟨_, rfl, ?_⟩
  replace hB := Below.andThen hB hbl1
  refine .ops0 (.thenN ?_)
  refine At.cond (b := (p u1)) rfl (fun hc2 => ?_) (fun hc2 => ?_)
  ·skip
   refine .seq (.region (.move rfl rfl (.assign rfl rfl (.ops0 (.thenN (.retc (.inR (.thenR (.thenR (.inR (.thenR (.doneR (ResV.tmp rfl ResV.nil) ?_))))))))))))
   exact ⟨congrArg Ending.returned (congrArg (Value.int .i64) (idxI_yes hu1 hc2 hn).symm), hB⟩
  refine .skip (.inN (.thenN (.region (.addI rfl rfl rfl (by omega) (.move rfl rfl (.ops0 (.thenN ?_)))))))
  exact fun act_ hact_ => ⟨(k + 1), hact_.sub (sC rfl (sC rfl (sC rfl (sC rfl sN)))), ⟨hB, (by omega), (next_no hn hu1 hc2)⟩, by first | omega | (dsimp only; omega)⟩
 have hc1' := of_decide_eq_false hc1
 refine .exit (.thenE (.thenE (.inE (.thenN (.seq (.region (.assign rfl rfl (.ops0 (.thenN (.retc (.doneR (ResV.tmp rfl ResV.nil) ?_)))))))))))
 exact ⟨congrArg Ending.returned (congrArg (Value.int .i64) (idxI_no (by omega) hn).symm), hB⟩
theorem lex_any (v : Value) (l : List UInt8) (m : Int) (w : World) (hv : BytesAt w v l) (hm : w.cell? ⟨0, 0, none⟩ = some (.int .i64 m)) :
  Calls Tryz.prog 35 ([v] : List Value).toArray w fun e w' => ∃ v', e = .returned (.tuple #[v', .int .i64 (lexA l : Int), .int .i64 (lexE l)]) ∧ Below w.heap.size w w' ∧ OwnR 141 4 Tk.cs w' v' (lexT l) ∧ ∀ g, v'.ownBlock = some g → w.heap.size ≤ g := by
 have hB := Below.refl w.heap.size w
 refine At.enter (N := 70) Tryz.func35 rfl rfl (by simp) [(0, v)] (by simp) ?_
 refine .seq (.region (.assign rfl rfl (.assign rfl rfl (.assign rfl rfl (.ops0 (.thenN (.seq (.seq (.region (.move rfl rfl (.lenSl rfl (BytesAt.ok hv) el74 rfl (.gtr rfl rfl rfl (.ops0 (.thenN ?_))))))))))))))
 refine At.cond (b := decide (1048576 < (l.length : Int))) rfl (fun hc1 => ?_) (fun hc1 => ?_)
 ·skip
  have hc1' := of_decide_eq_true hc1
  refine .seq (.region (.assign rfl rfl (.assign rfl rfl (.assign rfl rfl (.ops0 (.thenN (.retc (.thenR (.doneR (ResV.tmp rfl (ResV.tmp rfl (ResV.tmp rfl ResV.nil))) ?_)))))))))
  obtain ⟨e1, e2, e3⟩ := lex_big (l := l) (by omega)
  exact ⟨_, by rw [e2, e3]; rfl, hB, by rw [e1]; exact OwnR.nil _ _ _ _, fun g h => by cases h⟩
 have hc1' := of_decide_eq_false hc1
 refine .skip (.thenN (.seq (.region (.build (C := #[.func (.func 50) #[] #[], .func (.func 51) #[] #[]]) sd135 ze135 rfl (Bld.cons fo135_0 rfl (lB rfl) (Bld.cons fo135_1 rfl (lB rfl) (Bld.nil _))) rfl (.build (C := #[.func (.func 52) #[] #[], .func (.func 53) #[] #[]]) sd135 ze135 rfl (Bld.cons fo135_0 rfl (lB rfl) (Bld.cons fo135_1 rfl (lB rfl) (Bld.nil _))) rfl (.build (C := #[.func (.func 54) #[] #[], .func (.func 55) #[] #[]]) sd135 ze135 rfl (Bld.cons fo135_0 rfl (lB rfl) (Bld.cons fo135_1 rfl (lB rfl) (Bld.nil _))) rfl ?_))))))
 refine At.buildSlice (xs := [.tmp 17, .tmp 18, .tmp 19]) rfl rfl el136 sz135 ze135 (by intro v hv; simp only [List.mem_cons, List.not_mem_nil, or_false] at hv; rcases hv with rfl | rfl | rfl <;> first | rfl | simp [Value.cells, ((rl_ok Rl.d)).size, ((rl_ok Rl.l)).size, ((rl_ok Rl.s)).size]) rfl (by decide) rfl (fun b1 w1 F1 => ?_)
 have hb1 : w1.heap[b1]? = some (.cells (([Rl.d, Rl.l, Rl.s].map Rl.cs).flatMap (·.toList)).toArray 135) := F1.new
 replace hB := F1.below' hB
 refine .assign rfl rfl (.ops0 (.thenN (.seq (.region (.move rfl rfl (.ofBytes (l := l) rfl (BytesAt.keep hv hB) el74 ik5 st9 rfl ?_))))))
 refine At.alloc ze9 rfl (fun b2 w2 F2 => ?_)
 have n_b1_b2 := F2.ne' hb1
 have gb2 := F2.ge hB
 replace hb1 := F2.old hb1
 have hb2 : w2.heap[b2]? = some (.cells #[.string (⟨#[]⟩ : ByteArray)] 9) := F2.new
 replace hB := F2.below' hB
 refine At.store1 rfl rfl hb2 sz9 (by simp) rfl (fun w3 S1 => ?_)
 replace hb1 := S1.other hb1 n_b1_b2
 replace hb2 : w3.heap[b2]? = some (.cells #[.string (bs l)] 9) := S1.new
 replace hB := S1.below' hB gb2
 refine .ops0 (.thenN (.seq (.region (.assign rfl rfl (.ops0 (.thenN (.seq (.region ?_))))))))
 refine At.alloc ze3 rfl (fun b3 w4 F3 => ?_)
 have n_b1_b3 := F3.ne' hb1
 have n_b2_b3 := F3.ne' hb2
 have gb3 := F3.ge hB
 replace hb1 := F3.old hb1
 replace hb2 := F3.old hb2
 have hb3 : w4.heap[b3]? = some (.cells #[.int .i64 0] 3) := F3.new
 replace hB := F3.below' hB
 refine At.store1 rfl rfl hb3 sz3 (by simp) rfl (fun w5 S2 => ?_)
 replace hb1 := S2.other hb1 n_b1_b3
 replace hb2 := S2.other hb2 n_b2_b3
 replace hb3 : w5.heap[b3]? = some (.cells #[.int .i64 0] 3) := S2.new
 replace hB := S2.below' hB gb3
 refine .ops0 (.thenN (.block ?_))
 refine At.loop (Nat × Nat × Value × List Tk) (fun (b, a, vo, lo) => [(5, (.slice (some ⟨b1, 0, none⟩) 3 3)), (6, .pointer (some ⟨b2, 0, none⟩)), (7, vo), (8, .pointer (some ⟨b, 0, none⟩))]) (fun (b, a, vo, lo) w6 => Below w.heap.size w w6 ∧ w6.heap[b1]? = some (.cells (([Rl.d, Rl.l, Rl.s].map Rl.cs).flatMap (·.toList)).toArray 135) ∧ w6.heap[b2]? = some (.cells #[.string (bs l)] 9) ∧ w6.heap[b]? = some (.cells #[.int .i64 (a : Int)] 3) ∧ OwnR 141 4 Tk.cs w6 vo lo ∧ (w.heap.size ≤ b) ∧ (∀ g, vo.ownBlock = some g → w.heap.size ≤ g) ∧ (LexI l lo a)) (fun (b, a, vo, lo) => l.length - a) (b3, 0, .slice none 0 0, []) (sC rfl (sC rfl (sC rfl (sC rfl sN)))) ⟨hB, hb1, hb2, hb3, OwnR.nil _ _ _ _, (gb3), (fun g h => by cases h), (LexI.zero l)⟩ (fun gh w6 hI => ?_)
 obtain ⟨b, a, vo, lo⟩ := gh
 clear hB hb1 hb2 hb3
 obtain ⟨hB, hb1, hb2, hb, hrO, gb, gO, hI1⟩ := hI
 show At _ _ [(5, (.slice (some ⟨b1, 0, none⟩) 3 3)), (6, .pointer (some ⟨b2, 0, none⟩)), (7, vo), (8, .pointer (some ⟨b, 0, none⟩))] _ _
 have n_b1_b : b1 ≠ b := fun e => by rw [e] at hb1; rw [hb1] at hb; simp at hb
 have n_b2_b : b2 ≠ b := fun e => by rw [e] at hb2; rw [hb2] at hb; simp at hb
 have hal := hI1.1; have hol := hI1.2.2
 refine .seq (.block (.seq (.seq (.region (.load rfl (Ld.ownCell ag9 hb2 rfl) rfl (.load rfl (Ld.ownCell ag3 hb rfl) rfl ?_))))))
 have hle1 : a ≤ l.length := by omega
 refine .dropB (l := l) (h := a) rfl rfl st9 hle1 rfl ?_
 refine At.call en56 rfl rfl (blank_any (l.drop a) _ (by simp only [List.length_drop]; omega)) (fun e w' hR => ?_)
 obtain ⟨rfl, rfl⟩ := hR
 refine ⟨_, rfl, ?_⟩
 refine .assign rfl rfl (.ops0 (.thenN (.block ?_)))
 refine At.loop (Nat) (fun c => [(5, (.slice (some ⟨b1, 0, none⟩) 3 3)), (6, .pointer (some ⟨b2, 0, none⟩)), (7, vo), (8, .pointer (some ⟨b, 0, none⟩)), (9, .int .i64 (blank1 (l.drop c) : Int))]) (fun c w7 => Below w.heap.size w w7 ∧ w7.heap[b1]? = some (.cells (([Rl.d, Rl.l, Rl.s].map Rl.cs).flatMap (·.toList)).toArray 135) ∧ w7.heap[b2]? = some (.cells #[.string (bs l)] 9) ∧ w7.heap[b]? = some (.cells #[.int .i64 (c : Int)] 3) ∧ OwnR 141 4 Tk.cs w7 vo lo ∧ (a ≤ c) ∧ (LexI l lo c)) (fun c => l.length - c) (a : Nat) (sC rfl (sC rfl (sC rfl (sC rfl (sC rfl sN))))) ⟨hB, hb1, hb2, hb, hrO, lR, (hI1)⟩ (fun c w7 hI => ?_)
 clear hB hb1 hb2 hb hrO
 obtain ⟨hB, hb1, hb2, hb, hrO, hac, hI2⟩ := hI
 show At _ _ [(5, (.slice (some ⟨b1, 0, none⟩) 3 3)), (6, .pointer (some ⟨b2, 0, none⟩)), (7, vo), (8, .pointer (some ⟨b, 0, none⟩)), (9, .int .i64 (blank1 (l.drop c) : Int))] _ _
 have hcl := hI2.1; have hcol := hI2.2.2; have hbl := blank1_le (l.drop c); simp only [List.length_drop] at hbl
 refine .seq (.seq (.region (.move rfl rfl (.gtr rfl rfl rfl (.ops0 (.thenN ?_))))))
 refine At.cond (b := decide (0 < (blank1 (l.drop c) : Int))) rfl (fun hc2 => ?_) (fun hc2 => ?_)
 ·skip
  have hc2' := of_decide_eq_true hc2
  refine .skip (.thenN (.seq (.block (.region (.load rfl (Ld.ownCell ag3 hb rfl) rfl (.move rfl rfl (.addI rfl rfl rfl (by omega) ?_)))))))
  refine At.store1 rfl rfl hb sz3 (by simp) rfl (fun w8 S3 => ?_)
  replace hb1 := S3.other hb1 n_b1_b
  replace hb2 := S3.other hb2 n_b2_b
  replace hrO := hrO.set S3 (hrO.neT hb rfl)
  replace hb : w8.heap[b]? = some (.cells #[.int .i64 ((c : Int) + (blank1 (l.drop c) : Int))] 3) := S3.new
  replace hB := S3.below' hB gb
  refine .ops0 (.inN (.thenN (.region (.load rfl (Ld.ownCell ag9 hb2 rfl) rfl (.load rfl (Ld.ownCell ag3 hb rfl) rfl ?_)))))
  have hle2 : (c + (blank1 (l.drop c))) ≤ l.length := by omega
  refine .dropB (l := l) (h := (c + (blank1 (l.drop c)))) rfl rfl st9 hle2 rfl ?_
  refine At.call en56 rfl rfl (blank_any (l.drop (c + (blank1 (l.drop c)))) _ (by simp only [List.length_drop]; omega)) (fun e w' hR => ?_)
  obtain ⟨rfl, rfl⟩ := hR
  refine ⟨_, rfl, ?_⟩
  refine .assign rfl rfl (.ops0 (.thenN ?_))
  exact fun act_ hact_ => ⟨(c + blank1 (l.drop c)), hact_.sub (sC rfl (sC rfl (sC rfl (sC rfl (sC rfl sN))))), ⟨hB, hb1, hb2, hb, hrO, (by omega), (LexI.blank hI2 (by omega))⟩, by first | omega | (dsimp only; omega)⟩
 have hc2' := of_decide_eq_false hc2
 refine .exit (.thenE (.thenE (.inE (.thenN (.seq (.seq (.region (.load rfl (Ld.ownCell ag3 hb rfl) rfl (.load rfl (Ld.ownCell ag9 hb2 rfl) rfl (.lenB (l := l) rfl st9 rfl (.eqI rfl rfl rfl (.ops0 (.thenN ?_)))))))))))))
 refine At.cond (b := decide ((c : Int) = (l.length : Int))) rfl (fun hc3 => ?_) (fun hc3 => ?_)
 ·skip
  have hc3' := of_decide_eq_true hc3
  refine .seq (.region (.move rfl rfl (.assign rfl rfl (.assign rfl rfl (.assign rfl rfl (.ops0 (.thenN (.retc (.thenR (.inR (.thenR (.thenR (.inR (.doneR (ResV.tmp rfl (ResV.tmp rfl (ResV.tmp rfl ResV.nil))) ?_))))))))))))))
  obtain ⟨e1, e2, e3⟩ := lex_ok (l := l) (by omega) (LexI.stop hI2 (by omega) (by omega))
  exact ⟨_, by rw [e2, e3]; rfl, hB, by rw [e1]; exact hrO, gO⟩
 have hc3' := of_decide_eq_false hc3
 refine .skip (.thenN (.seq ?_))
 have hnb : ¬ 0 < blank1 (l.drop c) := by omega
 obtain ⟨uc, huc⟩ := some_of_lt (l := l) (i := c) (by omega)
 refine .region (.move rfl rfl (.makeFunc rfl rfl ?_))
 refine At.call en57 rfl rfl (indexR_any (.slice (some ⟨b1, 0, none⟩) 3 3) [Rl.d, Rl.l, Rl.s] 58 [.pointer (some ⟨b2, 0, none⟩), .pointer (some ⟨b, 0, none⟩)] (fun r => begB r uc) _ (rows_own (f := Rl.cs) (m := 3) hb1 (fun u hu => ((mem3 (Q := fun u => RlOk u) (rl_ok Rl.d) (rl_ok Rl.l) (rl_ok Rl.s)) u hu).size) rfl (by decide)) (by decide) en58 (fun r w1 hw => pick_any r b2 b l c uc w1 (Below.old hw hb2) (Below.old hw hb) huc)) (fun e w9 hR => ?_)
 obtain ⟨rfl, hbl1⟩ := hR
 refine ⟨_, rfl, ?_⟩
 replace hb1 := Below.old hbl1 hb1
 replace hb2 := Below.old hbl1 hb2
 replace hb := Below.old hbl1 hb
 replace hrO := hrO.below hbl1
 replace hB := Below.andThen hB hbl1
 refine .assign rfl rfl (.ops0 (.thenN (.seq ?_)))
 obtain ⟨j, hj, hjr⟩ := rule_at uc
 refine .set (d := 10) (u := .int .i64 (j : Int)) rfl (congrArg (Value.int .i64) hj) ?_
 have hle3 : c ≤ l.length := by omega
 refine .drawG (n := 17) mixed (by kernel_rfl) rfl (PanicOk.then (PanicOk.block (PanicOk.then (PanicOk.then (PanicOk.block PanicOk.body))))) ?_
 have hB := Below.drewB hB
 have hb1 : _ := (show w9.drew.heap[b1]? = _ from hb1)
 have hb2 : _ := (show w9.drew.heap[b2]? = _ from hb2)
 have hb : _ := (show w9.drew.heap[b]? = _ from hb)
 have hrO := hrO.drew
 refine .wpcS (i := 0) (d := 45) ((.slice (some ⟨b1, 0, none⟩) 3 3)) (by kernel_rfl) rfl rfl rfl (fun Lx => .move rfl rfl (.ops0 fun a ha => ⟨ha, rfl⟩)) ?_
 refine .wpcS (i := 1) (d := 46) (.int .i64 (j : Int)) (by kernel_rfl) rfl rfl rfl (fun Lx => .move rfl rfl (.ops0 fun a ha => ⟨ha, rfl⟩)) ?_
 refine .wpcS (i := 2) (d := 47) (.pointer (some ⟨vBlock (.slice (some ⟨b1, 0, none⟩) 3 3), vOff (.slice (some ⟨b1, 0, none⟩) 3 3) + j * 2, none⟩)) (by kernel_rfl) rfl rfl rfl (fun Lx => .indexAddr (i := j) rfl rfl ((rows_own (f := Rl.cs) (m := 3) hb1 (fun u hu => ((mem3 (Q := fun u => RlOk u) (rl_ok Rl.d) (rl_ok Rl.l) (rl_ok Rl.s)) u hu).size) rfl (by decide))).okL (lt_of_some hjr) el136 sz135 rfl (.ops0 fun a ha => ⟨ha, rfl⟩)) ?_
 refine .wpcS (i := 3) (d := 48) (.pointer (some ⟨vBlock (.slice (some ⟨b1, 0, none⟩) 3 3), vOff (.slice (some ⟨b1, 0, none⟩) 3 3) + j * 2 + 1, none⟩)) (by kernel_rfl) rfl rfl rfl (fun Lx => .fieldAddr rfl fo135_1 rfl (.ops0 fun a ha => ⟨ha, rfl⟩)) ?_
 refine .wpcS (i := 4) (d := 49) (.func (.func (ruleOf uc).t) #[] ([] : List Value).toArray) (by kernel_rfl) rfl rfl rfl (fun Lx => .load rfl (Ld.cell ag133 (cell_keep ((((rows_own (f := Rl.cs) (m := 3) hb1 (fun u hu => ((mem3 (Q := fun u => RlOk u) (rl_ok Rl.d) (rl_ok Rl.l) (rl_ok Rl.s)) u hu).size) rfl (by decide))).row hjr).get (((mem3 (Q := fun u => RlOk u) (rl_ok Rl.d) (rl_ok Rl.l) (rl_ok Rl.s)) (ruleOf uc) (List.mem_of_getElem? hjr))).c1) (Below.refl _ _))) rfl (.ops0 fun a ha => ⟨ha, rfl⟩)) ?_
 refine .wpcS (i := 5) (d := 50) (.string (bs l)) (by kernel_rfl) rfl rfl rfl (fun Lx => .load rfl (Ld.ownCell ag9 hb2 rfl) rfl (.ops0 fun a ha => ⟨ha, rfl⟩)) ?_
 refine .wpcS (i := 6) (d := 51) (.int .i64 (c : Int)) (by kernel_rfl) rfl rfl rfl (fun Lx => .load rfl (Ld.ownCell ag3 hb rfl) rfl (.ops0 fun a ha => ⟨ha, rfl⟩)) ?_
 refine .wpcS (i := 7) (d := 52) (.string (bs (l.drop c))) (by kernel_rfl) rfl rfl rfl (fun Lx => .dropB (l := l) (h := c) rfl rfl st9 hle3 rfl (.ops0 fun a ha => ⟨ha, rfl⟩)) ?_
 refine At.wpcE [8, 13] (by kernel_rfl) (by kernel_rfl) (.cons [] rfl (by kernel_rfl) ?_ (.cons [0, 1, 2, 3, 4, 5, 6, 7] rfl (by kernel_rfl) ?_ .nil))
 ·skip
  refine At.callV rfl (ent_t (ruleOf uc)) rfl rfl (take_any (ruleOf uc) (l.drop c) m _ (by simp only [List.length_drop]; omega) (drop_ne huc) (cell_keep hm hB)) (fun e w10 hR => ?_)
  obtain ⟨rfl, hbl2⟩ := hR
  refine ⟨_, rfl, ?_⟩
  replace hb1 := Below.old hbl2 hb1
  replace hb2 := Below.old hbl2 hb2
  replace hb := Below.old hbl2 hb
  replace hrO := hrO.below hbl2
  replace hB := Below.andThen hB hbl2
  refine .ops0 (.wpcN .nil ?_)
  refine .wpcS (i := 9) (d := 44) (.tuple #[.agg (takR (ruleOf uc) (l.drop c)).tok.cs, .int .i64 ((takR (ruleOf uc) (l.drop c)).n : Int), .bool ((takR (ruleOf uc) (l.drop c)).ok)]) (by kernel_rfl) rfl rfl rfl (fun Lx => .move rfl rfl (.ops0 fun a ha => ⟨ha, rfl⟩)) ?_
  refine .wpcS (i := 10) (d := 54) (.agg (takR (ruleOf uc) (l.drop c)).tok.cs) (by kernel_rfl) rfl rfl rfl (fun Lx => .extract rfl rfl rfl (.ops0 fun a ha => ⟨ha, rfl⟩)) ?_
  refine .wpcS (i := 11) (d := 55) (.int .i64 ((takR (ruleOf uc) (l.drop c)).n : Int)) (by kernel_rfl) rfl rfl rfl (fun Lx => .extract rfl rfl rfl (.ops0 fun a ha => ⟨ha, rfl⟩)) ?_
  refine .wpcS (i := 12) (d := 56) (.bool ((takR (ruleOf uc) (l.drop c)).ok)) (by kernel_rfl) rfl rfl rfl (fun Lx => .extract rfl rfl rfl (.ops0 fun a ha => ⟨ha, rfl⟩)) ?_
  refine At.wpcE [13] (by kernel_rfl) (by kernel_rfl) (.cons [9, 10, 11, 12] rfl (by kernel_rfl) ?_ .nil)
  refine At.alloc ze141 rfl (fun b4 w11 F4 => ?_)
  have q_hrO_b4 : some b4 ≠ Value.ownBlock vo := Own.neFresh hrO F4
  have n_b1_b4 := F4.ne' hb1
  have n_b2_b4 := F4.ne' hb2
  have n_b_b4 := F4.ne' hb
  have gb4 := F4.ge hB
  replace hb1 := F4.old hb1
  replace hb2 := F4.old hb2
  replace hb := F4.old hb
  replace hrO := hrO.fresh F4
  have hb4 : w11.heap[b4]? = some (.cells #[.int .i64 0, .string (⟨#[]⟩ : ByteArray), .int .i64 0, .int .i64 0] 141) := F4.new
  replace hB := F4.below' hB
  refine .ops0 ?_
  refine At.wpcN (.cons rfl rfl rfl rfl (fun Lx => ?_) (.cons rfl rfl rfl rfl (fun Lx => ?_) (.cons rfl rfl rfl rfl (fun Lx => ?_) (.cons rfl rfl rfl rfl (fun Lx => ?_) .nil)))) ?_
  ·skip
   exact .move rfl rfl (.ops0 fun a ha => ⟨ha, rfl⟩)
  ·skip
   exact .extract rfl rfl rfl (.ops0 fun a ha => ⟨ha, rfl⟩)
  ·skip
   exact .extract rfl rfl rfl (.ops0 fun a ha => ⟨ha, rfl⟩)
  ·skip
   exact .extract rfl rfl rfl (.ops0 fun a ha => ⟨ha, rfl⟩)
  refine At.wpcE [14] (by kernel_rfl) (by kernel_rfl) (.cons [11, 12] rfl (by kernel_rfl) ?_ .nil)
  refine At.storeAll rfl rfl hb4 (sz141.trans (congrArg some ((tk_ok (takR (ruleOf uc) (l.drop c)).tok)).size.symm)) ((tk_ok (takR (ruleOf uc) (l.drop c)).tok)).size.symm ((tk_ok (takR (ruleOf uc) (l.drop c)).tok)).one (fun w12 S4 => ?_)
  replace hb1 := S4.other hb1 n_b1_b4
  replace hb2 := S4.other hb2 n_b2_b4
  replace hb := S4.other hb n_b_b4
  replace hrO := hrO.set S4 q_hrO_b4
  replace hb4 : w12.heap[b4]? = some (.cells (takR (ruleOf uc) (l.drop c)).tok.cs 141) := S4.new
  replace hB := S4.below' hB gb4
  refine .ops0 ?_
  refine At.wpcN (.cons rfl rfl rfl rfl (fun Lx => ?_) (.cons rfl rfl rfl rfl (fun Lx => ?_) .nil)) ?_
  ·skip
   exact .extract rfl rfl rfl (.ops0 fun a ha => ⟨ha, rfl⟩)
  ·skip
   exact .extract rfl rfl rfl (.ops0 fun a ha => ⟨ha, rfl⟩)
  refine At.wpcE [15] (by kernel_rfl) (by kernel_rfl) (.cons [12] rfl (by kernel_rfl) ?_ .nil)
  refine .assign rfl rfl (.ops0 ?_)
  refine At.wpcN (.cons rfl rfl rfl rfl (fun Lx => ?_) .nil) ?_
  ·skip
   exact .extract rfl rfl rfl (.ops0 fun a ha => ⟨ha, rfl⟩)
  refine At.wpcE [16] (by kernel_rfl) (by kernel_rfl) (.cons [] rfl (by kernel_rfl) ?_ .nil)
  refine .assign rfl rfl (.ops0 (.wpcN .nil (.wpcZ (.thenN (.seq (.seq (.region (.move rfl rfl (.not rfl rfl (.ops0 (.thenN ?_)))))))))))
  refine At.cond (b := (!(takR (ruleOf uc) (l.drop c)).ok)) rfl (fun hc4 => ?_) (fun hc4 => ?_)
  ·skip
   refine .seq ?_
   refine At.draw mixed [(8, .pointer (some ⟨b, 0, none⟩))] (sC rfl sN) rfl (RS ([] : List (Nat × Obj))) (dF [.c (.int .i64 (c : Int)), .c ((.slice none 0 0)), .c (.int .i64 (c : Int)), .c (.int .i64 2)]) (RS.drew _ _) RS.trans (dF.stab (by simp)) ⟨?_, ?_, ?_, ?_, trivial⟩ (fun vals w' hRS hf => ?_)
   ·intro vals Lx w1 hRS hpre
    have hB := RS.below hRS hB (by simp)
    have hb1 := hRS.old _ _ (by simp) hb1
    have hb2 := hRS.old _ _ (by simp) hb2
    have hb := hRS.old _ _ (by simp) hb
    have hb4 := hRS.old _ _ (by simp) hb4
    refine .load rfl (Ld.ownCell ag3 hb rfl) rfl (.ops0 ?_)
    exact fun a ha => ⟨_, ha, RS.refl _ _, rfl⟩
   ·intro vals Lx w1 hRS hpre
    have hB := RS.below hRS hB (by simp)
    have hb1 := hRS.old _ _ (by simp) hb1
    have hb2 := hRS.old _ _ (by simp) hb2
    have hb := hRS.old _ _ (by simp) hb
    have hb4 := hRS.old _ _ (by simp) hb4
    refine .assign rfl rfl (.ops0 ?_)
    exact fun a ha => ⟨_, ha, RS.refl _ _, rfl⟩
   ·intro vals Lx w1 hRS hpre
    have hB := RS.below hRS hB (by simp)
    have hb1 := hRS.old _ _ (by simp) hb1
    have hb2 := hRS.old _ _ (by simp) hb2
    have hb := hRS.old _ _ (by simp) hb
    have hb4 := hRS.old _ _ (by simp) hb4
    have p0 : vals 0 = .int .i64 (c : Int) := hpre 0 (by decide)
    refine .set (d := 59) (v := vals 0) rfl p0 ?_
    have p1 : vals 1 = (.slice none 0 0) := hpre 1 (by decide)
    refine .set (d := 2) (v := vals 1) rfl p1 (.assign rfl rfl (.ops0 ?_))
    exact fun a ha => ⟨_, ((ha).drop2 (congrArg some p1)).drop2 (congrArg some p0), RS.refl _ _, rfl⟩
   ·intro vals Lx w1 hRS hpre
    have hB := RS.below hRS hB (by simp)
    have hb1 := hRS.old _ _ (by simp) hb1
    have hb2 := hRS.old _ _ (by simp) hb2
    have hb := hRS.old _ _ (by simp) hb
    have hb4 := hRS.old _ _ (by simp) hb4
    have p2 : vals 2 = .int .i64 (c : Int) := hpre 2 (by decide)
    refine .set (d := 3) (v := vals 2) rfl p2 ?_
    have p0 : vals 0 = .int .i64 (c : Int) := hpre 0 (by decide)
    refine .set (d := 59) (v := vals 0) rfl p0 ?_
    have p1 : vals 1 = (.slice none 0 0) := hpre 1 (by decide)
    refine .set (d := 2) (v := vals 1) rfl p1 (.assign rfl rfl (.ops0 ?_))
    exact fun a ha => ⟨_, (((ha).drop2 (congrArg some p1)).drop2 (congrArg some p0)).drop2 (congrArg some p2), RS.refl _ _, rfl⟩
   have hB := RS.below hRS hB (by simp)
   have p1 : vals 1 = (.slice none 0 0) := hf 1 (by decide)
   have p2 : vals 2 = .int .i64 (c : Int) := hf 2 (by decide)
   have p3 : vals 3 = .int .i64 2 := hf 3 (by decide)
   refine .sub (L' := [(8, .pointer (some ⟨b, 0, none⟩)), (2, (.slice none 0 0)), (3, .int .i64 (c : Int)), (4, .int .i64 2)]) (sC rfl (Sub.cons (congrArg some p1) (Sub.cons (congrArg some p2) (Sub.cons (congrArg some p3) sN)))) (.thenN (.retc (.thenR (.inR (.thenR (.thenR (.inR (.doneR (ResV.tmp rfl (ResV.tmp rfl (ResV.tmp rfl ResV.nil))) ?_))))))))
   obtain ⟨e1, e2, e3⟩ := lex_bad (l := l) (by omega) (LexI.bad hI2 hnb huc (by simpa using hc4))
   exact ⟨_, by rw [e2, e3]; rfl, hB, by rw [e1]; exact OwnR.nil _ _ _ _, fun g h => by cases h⟩
  refine .skip (.thenN (.seq ?_))
  have hok : (takR (ruleOf uc) (l.drop c)).ok = true := by simpa using hc4
  have htk := take_le huc hok
  refine .region (.load rfl (Ld.ownCell ag3 hb rfl) rfl (.fieldAddr rfl fo141_3 rfl ?_))
  refine At.store1 rfl rfl hb4 sz3 (by rw [((tk_ok (takR (ruleOf uc) (l.drop c)).tok)).size]; decide) rfl (fun w14 S5 => ?_)
  replace hb1 := S5.other hb1 n_b1_b4
  replace hb2 := S5.other hb2 n_b2_b4
  replace hb := S5.other hb n_b_b4
  replace hrO := hrO.set S5 q_hrO_b4
  replace hb4 : w14.heap[b4]? = some (.cells (Tk.put (takR (ruleOf uc) (l.drop c)).tok c).cs 141) := S5.new
  replace hB := S5.below' hB gb4
  refine .ops0 (.thenN (.seq (.region (.move rfl rfl (.load rfl (Ld.own ag141 (sz141.trans (congrArg some ((tk_ok (Tk.put (takR (ruleOf uc) (l.drop c)).tok c))).size.symm)) hb4) rfl ?_)))))
  refine At.buildSlice (xs := [.tmp 63]) rfl rfl el92 sz141 ze141 (by intro v hv; simp only [List.mem_cons, List.not_mem_nil, or_false] at hv; rcases hv with rfl <;> first | rfl | simp [Value.cells, ((tk_ok (Tk.put (takR (ruleOf uc) (l.drop c)).tok c))).size]) rfl (by decide) rfl (fun b5 w15 F5 => ?_)
  have q_hrO_b5 : some b5 ≠ Value.ownBlock vo := Own.neFresh hrO F5
  replace hb1 := F5.old hb1
  replace hb2 := F5.old hb2
  replace hb := F5.old hb
  replace hb4 := F5.old hb4
  replace hrO := hrO.fresh F5
  have hb5 : w15.heap[b5]? = some (.cells (([(Tk.put (takR (ruleOf uc) (l.drop c)).tok c)].map Tk.cs).flatMap (·.toList)).toArray 141) := F5.new
  replace hB := F5.below' hB
  refine At.appendR (f := Tk.cs) rfl rfl el92 el92 sz141 by141 ze141 rfl hrO (rows_own (f := Tk.cs) (m := 1) hb5 (fun u hu => ((mem1 (Q := fun u => TkOk u) (tk_ok (Tk.put (takR (ruleOf uc) (l.drop c)).tok c))) u hu).size) rfl (by decide)) (by decide) (fun u hu => (((mem1 (Q := fun u => TkOk u) (tk_ok (Tk.put (takR (ruleOf uc) (l.drop c)).tok c)))) u hu).one) (by simp; omega) (by simp; omega) rfl (fun va1 w16 hO1 hA1 => ?_)
  replace hO1 : OwnR 141 4 Tk.cs w16 va1 (lo ++ [(Tk.put (takR (ruleOf uc) (l.drop c)).tok c)]) := hO1
  replace hb1 := hA1.old hb1 (hrO.neT hb1 rfl)
  replace hb2 := hA1.old hb2 (hrO.neT hb2 rfl)
  replace hb := hA1.old hb (hrO.neT hb rfl)
  have q_hO1_b4 : some b4 ≠ Value.ownBlock va1 := Moved.ne hA1.blk (Array.getElem?_eq_some_iff.1 hb4).1 q_hrO_b4
  clear hb5
  have ghO1 := hA1.ge hB.size gO
  replace hB := hA1.below hB hB.size gO
  refine .assign rfl rfl (.ops0 (.thenN (.region (.load rfl (Ld.ownCell ag3 hb rfl) rfl (.move rfl rfl (.addI rfl rfl rfl (by omega) ?_))))))
  refine At.store1 rfl rfl hb sz3 (by simp) rfl (fun w17 S6 => ?_)
  replace hb1 := S6.other hb1 n_b1_b
  replace hb2 := S6.other hb2 n_b2_b
  replace hO1 := hO1.set S6 (hO1.neT hb rfl)
  replace hb : w17.heap[b]? = some (.cells #[.int .i64 ((c : Int) + ((takR (ruleOf uc) (l.drop c)).n : Int))] 3) := S6.new
  replace hB := S6.below' hB gb
  refine .ops0 (.inN (.thenN (.seq (.region (.load rfl (Ld.ownCell ag3 hb rfl) rfl (.ops0 (.thenN (.region ?_))))))))
  refine At.alloc ze3 rfl (fun b6 w18 F6 => ?_)
  have n_b1_b6 := F6.ne' hb1
  have n_b2_b6 := F6.ne' hb2
  have gb6 := F6.ge hB
  replace hb1 := F6.old hb1
  replace hb2 := F6.old hb2
  replace hO1 := hO1.fresh F6
  have hb6 : w18.heap[b6]? = some (.cells #[.int .i64 0] 3) := F6.new
  replace hB := F6.below' hB
  refine At.store1 rfl rfl hb6 sz3 (by simp) rfl (fun w19 S7 => ?_)
  replace hb1 := S7.other hb1 n_b1_b6
  replace hb2 := S7.other hb2 n_b2_b6
  replace hO1 := hO1.set S7 (hO1.neT hb6 rfl)
  replace hb6 : w19.heap[b6]? = some (.cells #[.int .i64 ((c : Int) + ((takR (ruleOf uc) (l.drop c)).n : Int))] 3) := S7.new
  replace hB := S7.below' hB gb6
  refine .ops0 (.thenN ?_)
  exact fun act_ hact_ => ⟨(b6, (c + (takR (ruleOf uc) (l.drop c)).n), va1, (lo ++ [(Tk.put (takR (ruleOf uc) (l.drop c)).tok c)])), hact_.sub (sC rfl (sC rfl (sC rfl (sC rfl sN)))), ⟨hB, hb1, hb2, hb6, hO1, (gb6), (ghO1), (LexI.word hI2 hnb huc hok)⟩, by first | omega | (dsimp only; omega)⟩
 refine At.alloc ze141 rfl (fun b7 w20 F7 => ?_)
 have q_hrO_b7 : some b7 ≠ Value.ownBlock vo := Own.neFresh hrO F7
 have n_b1_b7 := F7.ne' hb1
 have n_b2_b7 := F7.ne' hb2
 have n_b_b7 := F7.ne' hb
 have gb7 := F7.ge hB
 replace hb1 := F7.old hb1
 replace hb2 := F7.old hb2
 replace hb := F7.old hb
 replace hrO := hrO.fresh F7
 have hb7 : w20.heap[b7]? = some (.cells #[.int .i64 0, .string (⟨#[]⟩ : ByteArray), .int .i64 0, .int .i64 0] 141) := F7.new
 replace hB := F7.below' hB
 refine .ops0 ?_
 refine At.wpcN (.cons rfl rfl rfl rfl (fun Lx => ?_) (.cons rfl rfl rfl rfl (fun Lx => ?_) (.cons rfl rfl rfl rfl (fun Lx => ?_) (.cons rfl rfl rfl rfl (fun Lx => ?_) (.cons rfl rfl rfl rfl (fun Lx => ?_) (.cons rfl rfl rfl rfl (fun Lx => ?_) (.cons rfl rfl rfl rfl (fun Lx => ?_) (.cons rfl rfl rfl rfl (fun Lx => ?_) .nil)))))))) ?_
 ·skip
  exact .move rfl rfl (.ops0 fun a ha => ⟨ha, rfl⟩)
 ·skip
  exact .move rfl rfl (.ops0 fun a ha => ⟨ha, rfl⟩)
 ·skip
  exact .indexAddr (i := j) rfl rfl ((rows_own (f := Rl.cs) (m := 3) hb1 (fun u hu => ((mem3 (Q := fun u => RlOk u) (rl_ok Rl.d) (rl_ok Rl.l) (rl_ok Rl.s)) u hu).size) rfl (by decide))).okL (lt_of_some hjr) el136 sz135 rfl (.ops0 fun a ha => ⟨ha, rfl⟩)
 ·skip
  exact .fieldAddr rfl fo135_1 rfl (.ops0 fun a ha => ⟨ha, rfl⟩)
 ·skip
  exact .load rfl (Ld.cell ag133 (cell_keep ((((rows_own (f := Rl.cs) (m := 3) hb1 (fun u hu => ((mem3 (Q := fun u => RlOk u) (rl_ok Rl.d) (rl_ok Rl.l) (rl_ok Rl.s)) u hu).size) rfl (by decide))).row hjr).get (((mem3 (Q := fun u => RlOk u) (rl_ok Rl.d) (rl_ok Rl.l) (rl_ok Rl.s)) (ruleOf uc) (List.mem_of_getElem? hjr))).c1) (Below.refl _ _))) rfl (.ops0 fun a ha => ⟨ha, rfl⟩)
 ·skip
  exact .load rfl (Ld.ownCell ag9 hb2 rfl) rfl (.ops0 fun a ha => ⟨ha, rfl⟩)
 ·skip
  exact .load rfl (Ld.ownCell ag3 hb rfl) rfl (.ops0 fun a ha => ⟨ha, rfl⟩)
 ·skip
  exact .dropB (l := l) (h := c) rfl rfl st9 hle3 rfl (.ops0 fun a ha => ⟨ha, rfl⟩)
 refine At.wpcE [8] (by kernel_rfl) (by kernel_rfl) (.cons [] rfl (by kernel_rfl) ?_ .nil)
 refine At.callV rfl (ent_t (ruleOf uc)) rfl rfl (take_any (ruleOf uc) (l.drop c) m _ (by simp only [List.length_drop]; omega) (drop_ne huc) (cell_keep hm hB)) (fun e w21 hR => ?_)
 obtain ⟨rfl, hbl3⟩ := hR
 refine ⟨_, rfl, ?_⟩
 replace hb1 := Below.old hbl3 hb1
 replace hb2 := Below.old hbl3 hb2
 replace hb := Below.old hbl3 hb
 replace hb7 := Below.old hbl3 hb7
 replace hrO := hrO.below hbl3
 replace hB := Below.andThen hB hbl3
 refine .ops0 (.wpcN .nil ?_)
 refine .wpcS (i := 9) (d := 44) (.tuple #[.agg (takR (ruleOf uc) (l.drop c)).tok.cs, .int .i64 ((takR (ruleOf uc) (l.drop c)).n : Int), .bool ((takR (ruleOf uc) (l.drop c)).ok)]) (by kernel_rfl) rfl rfl rfl (fun Lx => .move rfl rfl (.ops0 fun a ha => ⟨ha, rfl⟩)) ?_
 refine .wpcS (i := 10) (d := 54) (.agg (takR (ruleOf uc) (l.drop c)).tok.cs) (by kernel_rfl) rfl rfl rfl (fun Lx => .extract rfl rfl rfl (.ops0 fun a ha => ⟨ha, rfl⟩)) ?_
 refine .wpcS (i := 11) (d := 55) (.int .i64 ((takR (ruleOf uc) (l.drop c)).n : Int)) (by kernel_rfl) rfl rfl rfl (fun Lx => .extract rfl rfl rfl (.ops0 fun a ha => ⟨ha, rfl⟩)) ?_
 refine .wpcS (i := 12) (d := 56) (.bool ((takR (ruleOf uc) (l.drop c)).ok)) (by kernel_rfl) rfl rfl rfl (fun Lx => .extract rfl rfl rfl (.ops0 fun a ha => ⟨ha, rfl⟩)) ?_
 refine At.wpcE [14] (by kernel_rfl) (by kernel_rfl) (.cons [11, 12] rfl (by kernel_rfl) ?_ .nil)
 refine At.storeAll rfl rfl hb7 (sz141.trans (congrArg some ((tk_ok (takR (ruleOf uc) (l.drop c)).tok)).size.symm)) ((tk_ok (takR (ruleOf uc) (l.drop c)).tok)).size.symm ((tk_ok (takR (ruleOf uc) (l.drop c)).tok)).one (fun w22 S8 => ?_)
 replace hb1 := S8.other hb1 n_b1_b7
 replace hb2 := S8.other hb2 n_b2_b7
 replace hb := S8.other hb n_b_b7
 replace hrO := hrO.set S8 q_hrO_b7
 replace hb7 : w22.heap[b7]? = some (.cells (takR (ruleOf uc) (l.drop c)).tok.cs 141) := S8.new
 replace hB := S8.below' hB gb7
 refine .ops0 ?_
 refine At.wpcN (.cons rfl rfl rfl rfl (fun Lx => ?_) (.cons rfl rfl rfl rfl (fun Lx => ?_) .nil)) ?_
 ·skip
  exact .extract rfl rfl rfl (.ops0 fun a ha => ⟨ha, rfl⟩)
 ·skip
  exact .extract rfl rfl rfl (.ops0 fun a ha => ⟨ha, rfl⟩)
 refine At.wpcE [15] (by kernel_rfl) (by kernel_rfl) (.cons [12] rfl (by kernel_rfl) ?_ .nil)
 refine .assign rfl rfl (.ops0 ?_)
 refine At.wpcN (.cons rfl rfl rfl rfl (fun Lx => ?_) .nil) ?_
 ·skip
  exact .extract rfl rfl rfl (.ops0 fun a ha => ⟨ha, rfl⟩)
 refine At.wpcE [16] (by kernel_rfl) (by kernel_rfl) (.cons [] rfl (by kernel_rfl) ?_ .nil)
 refine .assign rfl rfl (.ops0 (.wpcN .nil (.wpcZ (.thenN (.seq (.seq (.region (.move rfl rfl (.not rfl rfl (.ops0 (.thenN ?_)))))))))))
 refine At.cond (b := (!(takR (ruleOf uc) (l.drop c)).ok)) rfl (fun hc5 => ?_) (fun hc5 => ?_)
 ·skip
  refine .seq ?_
  refine At.draw mixed [(8, .pointer (some ⟨b, 0, none⟩))] (sC rfl sN) rfl (RS ([] : List (Nat × Obj))) (dF [.c (.int .i64 (c : Int)), .c ((.slice none 0 0)), .c (.int .i64 (c : Int)), .c (.int .i64 2)]) (RS.drew _ _) RS.trans (dF.stab (by simp)) ⟨?_, ?_, ?_, ?_, trivial⟩ (fun vals w' hRS hf => ?_)
  ·intro vals Lx w1 hRS hpre
   have hB := RS.below hRS hB (by simp)
   have hb1 := hRS.old _ _ (by simp) hb1
   have hb2 := hRS.old _ _ (by simp) hb2
   have hb := hRS.old _ _ (by simp) hb
   have hb7 := hRS.old _ _ (by simp) hb7
   refine .load rfl (Ld.ownCell ag3 hb rfl) rfl (.ops0 ?_)
   exact fun a ha => ⟨_, ha, RS.refl _ _, rfl⟩
  ·intro vals Lx w1 hRS hpre
   have hB := RS.below hRS hB (by simp)
   have hb1 := hRS.old _ _ (by simp) hb1
   have hb2 := hRS.old _ _ (by simp) hb2
   have hb := hRS.old _ _ (by simp) hb
   have hb7 := hRS.old _ _ (by simp) hb7
   refine .assign rfl rfl (.ops0 ?_)
   exact fun a ha => ⟨_, ha, RS.refl _ _, rfl⟩
  ·intro vals Lx w1 hRS hpre
   have hB := RS.below hRS hB (by simp)
   have hb1 := hRS.old _ _ (by simp) hb1
   have hb2 := hRS.old _ _ (by simp) hb2
   have hb := hRS.old _ _ (by simp) hb
   have hb7 := hRS.old _ _ (by simp) hb7
   have p0 : vals 0 = .int .i64 (c : Int) := hpre 0 (by decide)
   refine .set (d := 59) (v := vals 0) rfl p0 ?_
   have p1 : vals 1 = (.slice none 0 0) := hpre 1 (by decide)
   refine .set (d := 2) (v := vals 1) rfl p1 (.assign rfl rfl (.ops0 ?_))
   exact fun a ha => ⟨_, ((ha).drop2 (congrArg some p1)).drop2 (congrArg some p0), RS.refl _ _, rfl⟩
  ·intro vals Lx w1 hRS hpre
   have hB := RS.below hRS hB (by simp)
   have hb1 := hRS.old _ _ (by simp) hb1
   have hb2 := hRS.old _ _ (by simp) hb2
   have hb := hRS.old _ _ (by simp) hb
   have hb7 := hRS.old _ _ (by simp) hb7
   have p2 : vals 2 = .int .i64 (c : Int) := hpre 2 (by decide)
   refine .set (d := 3) (v := vals 2) rfl p2 ?_
   have p0 : vals 0 = .int .i64 (c : Int) := hpre 0 (by decide)
   refine .set (d := 59) (v := vals 0) rfl p0 ?_
   have p1 : vals 1 = (.slice none 0 0) := hpre 1 (by decide)
   refine .set (d := 2) (v := vals 1) rfl p1 (.assign rfl rfl (.ops0 ?_))
   exact fun a ha => ⟨_, (((ha).drop2 (congrArg some p1)).drop2 (congrArg some p0)).drop2 (congrArg some p2), RS.refl _ _, rfl⟩
  have hB := RS.below hRS hB (by simp)
  have p1 : vals 1 = (.slice none 0 0) := hf 1 (by decide)
  have p2 : vals 2 = .int .i64 (c : Int) := hf 2 (by decide)
  have p3 : vals 3 = .int .i64 2 := hf 3 (by decide)
  refine .sub (L' := [(8, .pointer (some ⟨b, 0, none⟩)), (2, (.slice none 0 0)), (3, .int .i64 (c : Int)), (4, .int .i64 2)]) (sC rfl (Sub.cons (congrArg some p1) (Sub.cons (congrArg some p2) (Sub.cons (congrArg some p3) sN)))) (.thenN (.retc (.thenR (.inR (.thenR (.thenR (.inR (.doneR (ResV.tmp rfl (ResV.tmp rfl (ResV.tmp rfl ResV.nil))) ?_))))))))
  obtain ⟨e1, e2, e3⟩ := lex_bad (l := l) (by omega) (LexI.bad hI2 hnb huc (by simpa using hc5))
  exact ⟨_, by rw [e2, e3]; rfl, hB, by rw [e1]; exact OwnR.nil _ _ _ _, fun g h => by cases h⟩
 refine .skip (.thenN (.seq ?_))
 have hok : (takR (ruleOf uc) (l.drop c)).ok = true := by simpa using hc5
 have htk := take_le huc hok
 refine .region (.load rfl (Ld.ownCell ag3 hb rfl) rfl (.fieldAddr rfl fo141_3 rfl ?_))
 refine At.store1 rfl rfl hb7 sz3 (by rw [((tk_ok (takR (ruleOf uc) (l.drop c)).tok)).size]; decide) rfl (fun w24 S9 => ?_)
 replace hb1 := S9.other hb1 n_b1_b7
 replace hb2 := S9.other hb2 n_b2_b7
 replace hb := S9.other hb n_b_b7
 replace hrO := hrO.set S9 q_hrO_b7
 replace hb7 : w24.heap[b7]? = some (.cells (Tk.put (takR (ruleOf uc) (l.drop c)).tok c).cs 141) := S9.new
 replace hB := S9.below' hB gb7
 refine .ops0 (.thenN (.seq (.region (.move rfl rfl (.load rfl (Ld.own ag141 (sz141.trans (congrArg some ((tk_ok (Tk.put (takR (ruleOf uc) (l.drop c)).tok c))).size.symm)) hb7) rfl ?_)))))
 refine At.buildSlice (xs := [.tmp 63]) rfl rfl el92 sz141 ze141 (by intro v hv; simp only [List.mem_cons, List.not_mem_nil, or_false] at hv; rcases hv with rfl <;> first | rfl | simp [Value.cells, ((tk_ok (Tk.put (takR (ruleOf uc) (l.drop c)).tok c))).size]) rfl (by decide) rfl (fun b8 w25 F8 => ?_)
 have q_hrO_b8 : some b8 ≠ Value.ownBlock vo := Own.neFresh hrO F8
 replace hb1 := F8.old hb1
 replace hb2 := F8.old hb2
 replace hb := F8.old hb
 replace hb7 := F8.old hb7
 replace hrO := hrO.fresh F8
 have hb8 : w25.heap[b8]? = some (.cells (([(Tk.put (takR (ruleOf uc) (l.drop c)).tok c)].map Tk.cs).flatMap (·.toList)).toArray 141) := F8.new
 replace hB := F8.below' hB
 refine At.appendR (f := Tk.cs) rfl rfl el92 el92 sz141 by141 ze141 rfl hrO (rows_own (f := Tk.cs) (m := 1) hb8 (fun u hu => ((mem1 (Q := fun u => TkOk u) (tk_ok (Tk.put (takR (ruleOf uc) (l.drop c)).tok c))) u hu).size) rfl (by decide)) (by decide) (fun u hu => (((mem1 (Q := fun u => TkOk u) (tk_ok (Tk.put (takR (ruleOf uc) (l.drop c)).tok c)))) u hu).one) (by simp; omega) (by simp; omega) rfl (fun va2 w26 hO2 hA2 => ?_)
 replace hO2 : OwnR 141 4 Tk.cs w26 va2 (lo ++ [(Tk.put (takR (ruleOf uc) (l.drop c)).tok c)]) := hO2
 replace hb1 := hA2.old hb1 (hrO.neT hb1 rfl)
 replace hb2 := hA2.old hb2 (hrO.neT hb2 rfl)
 replace hb := hA2.old hb (hrO.neT hb rfl)
 have q_hO2_b7 : some b7 ≠ Value.ownBlock va2 := Moved.ne hA2.blk (Array.getElem?_eq_some_iff.1 hb7).1 q_hrO_b7
 clear hb8
 have ghO2 := hA2.ge hB.size gO
 replace hB := hA2.below hB hB.size gO
 refine .assign rfl rfl (.ops0 (.thenN (.region (.load rfl (Ld.ownCell ag3 hb rfl) rfl (.move rfl rfl (.addI rfl rfl rfl (by omega) ?_))))))
 refine At.store1 rfl rfl hb sz3 (by simp) rfl (fun w27 S10 => ?_)
 replace hb1 := S10.other hb1 n_b1_b
 replace hb2 := S10.other hb2 n_b2_b
 replace hO2 := hO2.set S10 (hO2.neT hb rfl)
 replace hb : w27.heap[b]? = some (.cells #[.int .i64 ((c : Int) + ((takR (ruleOf uc) (l.drop c)).n : Int))] 3) := S10.new
 replace hB := S10.below' hB gb
 refine .ops0 (.inN (.thenN (.seq (.region (.load rfl (Ld.ownCell ag3 hb rfl) rfl (.ops0 (.thenN (.region ?_))))))))
 refine At.alloc ze3 rfl (fun b9 w28 F9 => ?_)
 have n_b1_b9 := F9.ne' hb1
 have n_b2_b9 := F9.ne' hb2
 have gb9 := F9.ge hB
 replace hb1 := F9.old hb1
 replace hb2 := F9.old hb2
 replace hO2 := hO2.fresh F9
 have hb9 : w28.heap[b9]? = some (.cells #[.int .i64 0] 3) := F9.new
 replace hB := F9.below' hB
 refine At.store1 rfl rfl hb9 sz3 (by simp) rfl (fun w29 S11 => ?_)
 replace hb1 := S11.other hb1 n_b1_b9
 replace hb2 := S11.other hb2 n_b2_b9
 replace hO2 := hO2.set S11 (hO2.neT hb9 rfl)
 replace hb9 : w29.heap[b9]? = some (.cells #[.int .i64 ((c : Int) + ((takR (ruleOf uc) (l.drop c)).n : Int))] 3) := S11.new
 replace hB := S11.below' hB gb9
 refine .ops0 (.thenN ?_)
 exact fun act_ hact_ => ⟨(b9, (c + (takR (ruleOf uc) (l.drop c)).n), va2, (lo ++ [(Tk.put (takR (ruleOf uc) (l.drop c)).tok c)])), hact_.sub (sC rfl (sC rfl (sC rfl (sC rfl sN)))), ⟨hB, hb1, hb2, hb9, hO2, (gb9), (ghO2), (LexI.word hI2 hnb huc hok)⟩, by first | omega | (dsimp only; omega)⟩
theorem ag38 : aggB Tryz.prog 38 = some true := by kernel_rfl
theorem en64 : entB Tryz.prog 64 = true := by kernel_rfl
theorem fo38_2 : fieldB Tryz.prog 38 2 = some (2, 21) := by kernel_rfl
theorem sz38 : sizeB Tryz.prog 38 = some 23 := by kernel_rfl
theorem ze38 : zeroB Tryz.prog 38 = some (.agg #[(.slice none 0 0), (.slice none 0 0), .int .i64 0, .int .i64 0, .string (⟨#[]⟩ : ByteArray), .string (⟨#[]⟩ : ByteArray), .int .i64 0, (.slice none 0 0), (.slice none 0 0), .int .i64 0, .string (⟨#[]⟩ : ByteArray), .int .i64 0, (.slice none 0 0), (.slice none 0 0), .int .i64 0, (.slice none 0 0), .int .i64 0, .int .i64 0, .string (⟨#[]⟩ : ByteArray), .int .i64 0, (.slice none 0 0), (.slice none 0 0), .int .i64 0]) := by kernel_rfl
theorem depth_step (left : Nat) (t : Tm) (w : World) (ht : TmOk w t) (hl1 : 1 ≤ left) (hl2 : left ≤ 1000)
  (ih : 1 < left → ∀ (t : Tm) (w : World), TmOk w t → Calls Tryz.prog 64 ([.agg t.cs, .int .i64 ((left - 1 : Nat) : Int)] : List Value).toArray w fun e w' => e = .returned (.int .i64 ((min (left - 1) (dS (shT t)) : Nat) : Int)) ∧ Below w.heap.size w w') :
  Calls Tryz.prog 64 ([.agg t.cs, .int .i64 (left : Int)] : List Value).toArray w fun e w' => e = .returned (.int .i64 ((min left (dS (shT t)) : Nat) : Int)) ∧ Below w.heap.size w w' := by
 have hB := Below.refl w.heap.size w
 refine At.enter (N := 44) Tryz.func64 rfl rfl (by simp) [(0, .agg t.cs), (1, .int .i64 (left : Int))] (by simp) ?_
 refine .seq (.region ?_)
 refine At.box rfl rfl (fun b1 w1 F1 => ?_)
 have hb1 : w1.heap[b1]? = some (.cells t.cs 31) := F1.new
 replace hB := F1.below' hB
 refine .assign rfl rfl (.ops0 (.thenN (.seq (.seq (.region (.move rfl rfl (.leq rfl rfl rfl (.ops0 (.thenN ?_)))))))))
 refine At.cond (b := decide ((left : Int) ≤ 1)) rfl (fun hc1 => ?_) (fun hc1 => ?_)
 ·skip
  have hc1' := of_decide_eq_true hc1
  refine .seq (.region (.move rfl rfl (.assign rfl rfl (.ops0 (.thenN (.retc (.thenR (.doneR (ResV.tmp rfl ResV.nil) ?_))))))))
  exact ⟨congrArg Ending.returned (congrArg (Value.int .i64) (by have := dS_pos (shT t); omega)), hB⟩
 have hc1' := of_decide_eq_false hc1
 refine .skip (.thenN (.seq (.region (.assign rfl rfl (.ops0 (.thenN (.seq (.seq ?_))))))))
 replace ih := ih (by omega)
 refine .region (.fieldAddr rfl fo31_5 rfl (.load rfl (Ld.ownCell ag22 hb1 (ht).c5) rfl (.lenSl rfl ((ht).kidsAt).okL el22 rfl (.move rfl rfl (.ops0 (.thenN (.block ?_)))))))
 refine At.loop (Nat × Nat) (fun (k, n) => [(1, .int .i64 (left : Int)), (2, .pointer (some ⟨b1, 0, none⟩)), (5, .int .i64 (n : Int)), (14, t.kv), (15, .int .i64 (t.kids.length : Int)), (16, .int .i64 (k : Int))]) (fun (k, n) w2 => Below w.heap.size w w2 ∧ w2.heap[b1]? = some (.cells t.cs 31) ∧ (k ≤ t.kids.length) ∧ (n = min (left - 1) (dSL ((t.kids.take k).map shT)))) (fun (k, n) => t.kids.length - k) (0, 0) (sC rfl (sC rfl (sC rfl (sC rfl (sC rfl (sC rfl sN)))))) ⟨hB, hb1, (Nat.zero_le _), (by simp [dSL])⟩ (fun gh w2 hI => ?_)
 obtain ⟨k, n⟩ := gh
 clear hB hb1
 obtain ⟨hB, hb1, hkb, hn⟩ := hI
 show At _ _ [(1, .int .i64 (left : Int)), (2, .pointer (some ⟨b1, 0, none⟩)), (5, .int .i64 (n : Int)), (14, t.kv), (15, .int .i64 (t.kids.length : Int)), (16, .int .i64 (k : Int))] _ _
 have hkl := ht.kidsAt.lenL
 refine .seq (.region (.lss rfl rfl rfl (.ops0 (.thenN (.seq ?_)))))
 refine At.cond (b := decide ((k : Int) < (t.kids.length : Int))) rfl (fun hc2 => ?_) (fun hc2 => ?_)
 ·skip
  have hc2' := of_decide_eq_true hc2
  refine .skip (.thenN (.seq (.block (.seq ?_))))
  obtain ⟨u1, hu1⟩ := some_of_lt (l := t.kids) (i := k) (by omega)
  have hdn := kid_next hu1
  refine .region (.indexAddr (i := k) rfl rfl ((ht).kidsAt).okL (lt_of_some hu1) el22 sz31 rfl (.load rfl (Ld.row ag31 (sz31.trans (congrArg some (((ht).kid hu1)).size.symm)) ((((ht).kidsAt).row hu1).keep hB)) rfl ?_))
  refine At.alloc ze31 rfl (fun b2 w3 F2 => ?_)
  have n_b1_b2 := F2.ne' hb1
  have gb2 := F2.ge hB
  replace hb1 := F2.old hb1
  have hb2 : w3.heap[b2]? = some (.cells #[zI, zI, zS, zS, zI, zN, zN, zI, zS, zI, zN, zN, zI, zN, zI, zI, zS, zI, zN, zN, zI] 31) := F2.new
  replace hB := F2.below' hB
  refine At.storeAll rfl rfl hb2 (sz31.trans (congrArg some (((ht).kid hu1)).size.symm)) (((ht).kid hu1)).size.symm (((ht).kid hu1)).one (fun w4 S1 => ?_)
  replace hb1 := S1.other hb1 n_b1_b2
  replace hb2 : w4.heap[b2]? = some (.cells u1.cs 31) := S1.new
  replace hB := S1.below' hB gb2
  refine .ops0 (.thenN (.region (.move rfl rfl (.load rfl (Ld.own ag31 (sz31.trans (congrArg some (((ht).kid hu1)).size.symm)) hb2) rfl (.move rfl rfl (.subI rfl rfl rfl (by omega) (.set (d := 23) (u := .int .i64 (((left - 1) : Nat) : Int)) rfl (congrArg (Value.int .i64) (by omega)) ?_)))))))
  refine At.call en64 rfl rfl (ih u1 _ ((((ht).kid hu1)).keep hB)) (fun e w5 hR => ?_)
  obtain ⟨rfl, hbl1⟩ := hR
  refine ⟨_, rfl, ?_⟩
  replace hb1 := Below.old hbl1 hb1
  replace hB := Below.andThen hB hbl1
  refine .maxI rfl rfl rfl (.set (d := 25) (u := .int .i64 (((max n (min (left - 1) (dS (shT u1)))) : Nat) : Int)) rfl (congrArg (Value.int .i64) (max_lit _ _)) (.assign rfl rfl (.ops0 (.inN (.thenN (.region (.addI rfl rfl rfl (by omega) (.move rfl rfl (.ops0 (.thenN ?_))))))))))
  exact fun act_ hact_ => ⟨((k + 1), (max n (min (left - 1) (dS (shT u1))))), hact_.sub (sC rfl (sC rfl (sC rfl (sC rfl (sC rfl (sC rfl sN)))))), ⟨hB, hb1, (by omega), (by rw [hdn]; omega)⟩, by first | omega | (dsimp only; omega)⟩
 have hc2' := of_decide_eq_false hc2
 refine .exit (.thenE (.thenE (.inE (.thenN (.seq (.seq (.region (.fieldAddr rfl fo31_6 rfl (.load rfl (Ld.ownCell ag23 hb1 (ht).c6) rfl (.lenSl rfl ((ht).armsAt).okL el23 rfl (.move rfl rfl (.ops0 (.thenN (.block ?_))))))))))))))
 refine At.loop (Nat × Nat) (fun (j, q) => [(1, .int .i64 (left : Int)), (5, .int .i64 (q : Int)), (28, t.av), (29, .int .i64 (t.arms.length : Int)), (30, .int .i64 (j : Int))]) (fun (j, q) w6 => Below w.heap.size w w6 ∧ (j ≤ t.arms.length) ∧ (q = max n (min (left - 1) (dSA ((t.arms.take j).map shAm))))) (fun (j, q) => t.arms.length - j) (0, n) (sC rfl (sC rfl (sC rfl (sC rfl (sC rfl sN))))) ⟨hB, (Nat.zero_le _), (by simp [dSA])⟩ (fun gh w6 hI => ?_)
 obtain ⟨j, q⟩ := gh
 clear hB hb1
 obtain ⟨hB, hjb, hq⟩ := hI
 show At _ _ [(1, .int .i64 (left : Int)), (5, .int .i64 (q : Int)), (28, t.av), (29, .int .i64 (t.arms.length : Int)), (30, .int .i64 (j : Int))] _ _
 have hal := ht.armsAt.lenL
 refine .seq (.region (.lss rfl rfl rfl (.ops0 (.thenN (.seq ?_)))))
 refine At.cond (b := decide ((j : Int) < (t.arms.length : Int))) rfl (fun hc3 => ?_) (fun hc3 => ?_)
 ·skip
  have hc3' := of_decide_eq_true hc3
  refine .skip (.thenN (.seq (.block (.seq ?_))))
  obtain ⟨u2, hu2⟩ := some_of_lt (l := t.arms) (i := j) (by omega)
  have hdn := arm_next hu2
  refine .region (.indexAddr (i := j) rfl rfl ((ht).armsAt).okL (lt_of_some hu2) el23 sz40 rfl (.load rfl (Ld.row ag40 (sz40.trans (congrArg some (((ht).arm hu2)).size.symm)) ((((ht).armsAt).row hu2).keep hB)) rfl ?_))
  refine At.alloc ze40 rfl (fun b3 w7 F3 => ?_)
  have gb3 := F3.ge hB
  have hb3 : w7.heap[b3]? = some (.cells #[zS, zN, zI, zI, zS, zS, zI, zN, zN, zI, zS, zI, zN, zN, zI, zN, zI, zI, zS, zI, zN, zN, zI] 40) := F3.new
  replace hB := F3.below' hB
  refine At.storeAll rfl rfl hb3 (sz40.trans (congrArg some (((ht).arm hu2)).size.symm)) (((ht).arm hu2)).size.symm (((ht).arm hu2)).one (fun w8 S2 => ?_)
  replace hb3 : w8.heap[b3]? = some (.cells u2.cs 40) := S2.new
  replace hB := S2.below' hB gb3
  refine .ops0 (.thenN (.region (.move rfl rfl (.fieldAddr rfl fo40_2 rfl (.load rfl (Ld.ownPart ag31 (sz31.trans (congrArg some ((((ht).arm hu2)).body).size.symm)) hb3 (((ht).arm hu2)).bodyCs) rfl (.move rfl rfl (.subI rfl rfl rfl (by omega) (.set (d := 38) (u := .int .i64 (((left - 1) : Nat) : Int)) rfl (congrArg (Value.int .i64) (by omega)) ?_))))))))
  refine At.call en64 rfl rfl (ih u2.body _ (((((ht).arm hu2)).body).keep hB)) (fun e w9 hR => ?_)
  obtain ⟨rfl, hbl2⟩ := hR
  refine ⟨_, rfl, ?_⟩
  replace hB := Below.andThen hB hbl2
  refine .maxI rfl rfl rfl (.set (d := 40) (u := .int .i64 (((max q (min (left - 1) (dS (shT u2.body)))) : Nat) : Int)) rfl (congrArg (Value.int .i64) (max_lit _ _)) (.assign rfl rfl (.ops0 (.inN (.thenN (.region (.addI rfl rfl rfl (by omega) (.move rfl rfl (.ops0 (.thenN ?_))))))))))
  exact fun act_ hact_ => ⟨((j + 1), (max q (min (left - 1) (dS (shT u2.body))))), hact_.sub (sC rfl (sC rfl (sC rfl (sC rfl (sC rfl sN))))), ⟨hB, (by omega), (by rw [hdn]; omega)⟩, by first | omega | (dsimp only; omega)⟩
 have hc3' := of_decide_eq_false hc3
 refine .exit (.thenE (.thenE (.inE (.thenN (.seq (.region (.move rfl rfl (.addI rfl rfl rfl (by omega) (.assign rfl rfl (.ops0 (.thenN (.retc (.doneR (ResV.tmp rfl ResV.nil) ?_)))))))))))))
 exact ⟨congrArg Ending.returned (congrArg (Value.int .i64) (by rw [List.take_of_length_le (by omega)] at hq hn; rw [dS_eq]; omega)), hB⟩
theorem depth_any : ∀ (left : Nat), 1 ≤ left → left ≤ 1000 → ∀ (t : Tm) (w : World), TmOk w t → Calls Tryz.prog 64 ([.agg t.cs, .int .i64 (left : Int)] : List Value).toArray w fun e w' => e = .returned (.int .i64 ((min left (dS (shT t)) : Nat) : Int)) ∧ Below w.heap.size w w' := by
 intro left
 induction left with
 | zero => intro h; omega
 | succ n ih => intro h1 h2 t w ht; exact depth_step (n + 1) t w ht h1 h2 (fun h t w ht => ih (by omega) (by omega) t w ht)
theorem Depth_any (t : Tm) (w : World) (ht : TmOk w t) :
  Calls Tryz.prog 38 ([.agg t.cs] : List Value).toArray w fun e w' => e = .returned (.int .i64 ((min 1000 (dS (shT t)) : Nat) : Int)) ∧ Below w.heap.size w w' := by
 have hB := Below.refl w.heap.size w
 refine At.enter (N := 5) Tryz.func38 rfl rfl (by simp) [(0, .agg t.cs)] (by simp) ?_
 refine .seq (.region ?_)
 refine At.box rfl rfl (fun b1 w1 F1 => ?_)
 have hb1 : w1.heap[b1]? = some (.cells t.cs 31) := F1.new
 replace hB := F1.below' hB
 refine .assign rfl rfl (.ops0 (.thenN (.seq (.region (.load rfl (Ld.own ag31 (sz31.trans (congrArg some (ht).size.symm)) hb1) rfl ?_)))))
 refine At.call en64 rfl rfl (depth_any 1000 (by decide) (by decide) t _ ((ht).keep hB)) (fun e w2 hR => ?_)
 obtain ⟨rfl, hbl1⟩ := hR
 refine ⟨_, rfl, ?_⟩
 replace hB := Below.andThen hB hbl1
 refine .assign rfl rfl (.ops0 (.thenN (.retc (.doneR (ResV.tmp rfl ResV.nil) ?_))))
 exact ⟨rfl, hB⟩
theorem program_any {wB : World} {b0 : Nat} {en : Int} (ts : List Tk) (v : Value) (w : World) (hB0 : Below wB.heap.size wB w) (hSge : ∀ k, k = b0 → wB.heap.size ≤ k) (hts : RowsAt wB v 4 (ts.map Tk.cs)) (hb0 : w.heap[b0]? = some (.cells #[v, .int .i64 en, zI] 102)) (hbig : ts.length ≤ 100000000) (hg : (programP en ts).isOk = true) :
  Calls Tryz.prog 37 ([.pointer (some ⟨b0, 0, none⟩)] : List Value).toArray w fun e w' => RetP (fun k => k = b0) wB b0 en 0 (okP w) (programP en ts) w e w' := by
 have htl := hts.lenL
 have hR := Fr.refl (fun k => k = b0) w
 have hB := hB0
 refine At.enter (N := 40) Tryz.func37 rfl rfl (by simp) [(0, .pointer (some ⟨b0, 0, none⟩))] (by simp) ?_
 refine .seq (.region ?_)
 refine At.alloc ze38 rfl (fun b1 w1 F1 => ?_)
 have n_b0_b1 := F1.ne' hb0
 have gb1 := F1.gq hR.size
 replace hb0 := F1.old hb0
 have hb1 : w1.heap[b1]? = some (.cells #[zN, zN, zI, zI, zS, zS, zI, zN, zN, zI, zS, zI, zN, zN, zI, zN, zI, zI, zS, zI, zN, zN, zI] 38) := F1.new
 replace hR := hR.freshF F1
 refine .ops0 (.thenN (.seq (.block ?_)))
 refine At.loop (List Tk × Value × Nat × Value × List Eff × List SEff × Value × List Dat × List SDat) (fun (us, vr, f, ve, le, xe, vd, ld, xd) => [(0, .pointer (some ⟨b0, 0, none⟩)), (2, .pointer (some ⟨b1, 0, none⟩))]) (fun (us, vr, f, ve, le, xe, vd, ld, xd) w2 => Fr (fun k => k = b0) w w2 ∧ w2.heap[b0]? = some (.cells #[vr, .int .i64 en, zI] 102) ∧ w2.heap[b1]? = some (.cells #[ve, vd, zI, zI, zS, zS, zI, zN, zN, zI, zS, zI, zN, zN, zI, zN, zI, zI, zS, zI, zN, zN, zI] 38) ∧ OwnR 146 2 Eff.cs w2 ve le ∧ OwnR 150 2 Dat.cs w2 vd ld ∧ Xs kEff [Value.ownBlock ve, Value.ownBlock vd, some b0, some b1] w2 le ∧ Xs kDat [Value.ownBlock ve, Value.ownBlock vd, some b0, some b1] w2 ld ∧ (RowsAt wB vr 4 (us.map Tk.cs)) ∧ (programP en ts = (declP en f xe xd us).bind fun p us => (exprP en 201 us).bind fun b us => bif decide (us = []) then .ok ⟨p.1, p.2, b⟩ us else failP en us) ∧ (us.length < f) ∧ (∀ g, Value.ownBlock ve = some g → w.heap.size ≤ g) ∧ (∀ g, Value.ownBlock vd = some g → w.heap.size ≤ g) ∧ (All2 (rE w) xe le) ∧ (All2 (rD w) xd ld) ∧ (le.length + ld.length + us.length ≤ ts.length)) (fun (us, vr, f, ve, le, xe, vd, ld, xd) => f) (ts, v, (ts.length + 1), zN, [], [], zN, [], []) (sC rfl (sC rfl sN)) ⟨hR, hb0, hb1, OwnR.nil 146 2 Eff.cs _, OwnR.nil 150 2 Dat.cs _, (Xs.nil _ _ _), (Xs.nil _ _ _), (hts), (rfl), (Nat.lt_succ_self _), (fun g h => by cases h), (fun g h => by cases h), (All2.nil), (All2.nil), (by simp)⟩ (fun gh w2 hI => ?_)
 obtain ⟨us, vr, f, ve, le, xe, vd, ld, xd⟩ := gh
 clear hR hB hb0 hb1
 obtain ⟨hR, hb0, hb1, hOe, hOd, hXe, hXd, hus, hs, hfl, gOe, gOd, hAe, hAd, hln⟩ := hI
 show At _ _ [(0, .pointer (some ⟨b0, 0, none⟩)), (2, .pointer (some ⟨b1, 0, none⟩))] _ _
 refine .seq (.seq (.region (.move rfl rfl (.nilCheck rfl rfl (.fieldAddr rfl fo102_0 rfl ?_)))))
 refine At.buildSlice (xs := [.const (.string (⟨#[101, 102, 102, 101, 99, 116]⟩ : ByteArray)), .const (.string (⟨#[100, 97, 116, 97]⟩ : ByteArray))]) rfl rfl el25 sz9 ze9 (by intro v hv; simp only [List.mem_cons, List.not_mem_nil, or_false] at hv; rcases hv with rfl | rfl <;> first | rfl | simp [Value.cells]) rfl (by decide) rfl (fun b2 w3 F2 => ?_)
 replace hb0 := F2.old hb0
 replace hb1 := F2.old hb1
 replace hOe := hOe.fresh F2
 replace hOd := hOd.fresh F2
 replace hXe := Xs.fresh hXe F2
 replace hXd := Xs.fresh hXd F2
 have hb2 : w3.heap[b2]? = some (.cells #[.string (⟨#[101, 102, 102, 101, 99, 116]⟩ : ByteArray), .string (⟨#[100, 97, 116, 97]⟩ : ByteArray)] 9) := F2.new
 replace hR := hR.freshF F2
 replace hB := Fr.below hR hB0 hB0.size hSge
 refine At.call en59 rfl rfl (is_any us vr (.slice (some ⟨b2, 0, none⟩) 2 2) ([(⟨#[101, 102, 102, 101, 99, 116]⟩ : ByteArray), (⟨#[100, 97, 116, 97]⟩ : ByteArray)]) _ ((hus).keep hB) hb0 ((StrsAt.own (ss := [(⟨#[101, 102, 102, 101, 99, 116]⟩ : ByteArray), (⟨#[100, 97, 116, 97]⟩ : ByteArray)]) hb2 rfl (by decide) : StrsAt _ (.slice (some ⟨b2, 0, none⟩) 2 2) [(⟨#[101, 102, 102, 101, 99, 116]⟩ : ByteArray), (⟨#[100, 97, 116, 97]⟩ : ByteArray)]))) (fun e w4 hR' => ?_)
 obtain ⟨rfl, hbl1⟩ := hR'
 refine ⟨_, rfl, ?_⟩
 replace hb0 := Below.old hbl1 hb0
 replace hb1 := Below.old hbl1 hb1
 replace hb2 := Below.old hbl1 hb2
 replace hOe := hOe.below hbl1
 replace hOd := hOd.below hbl1
 replace hXe := Xs.below hXe hbl1
 replace hXd := Xs.below hXd hbl1
 replace hR := hR.callF hbl1
 replace hB := Fr.below hR hB0 hB0.size hSge
 refine .ops0 (.thenN ?_)
 refine At.cond (b := (isK en us ([(⟨#[101, 102, 102, 101, 99, 116]⟩ : ByteArray), (⟨#[100, 97, 116, 97]⟩ : ByteArray)]))) rfl (fun hc1 => ?_) (fun hc1 => ?_)
 ·skip
  exact (PR.no hg (by obtain ⟨q, rfl⟩ : ∃ q, f = q + 1 := ⟨f - 1, by omega⟩; rw [hs, declP]; simp only [failP, SB, hc1] <;> rfl)).elim
 refine .exit (.thenE (.thenE (.inE (.thenN (.seq (.region (.move rfl rfl ?_)))))))
 have hml1 : MLt w4.heap.size [some b0, some b1, some b2, Value.ownBlock ve, Value.ownBlock vd] := (MLt.blk hb0 (MLt.blk hb1 (MLt.blk hb2 (MLt.own hOe (MLt.own hOd (MLt.nil _))))))
 refine At.call en62 rfl rfl (expr_any en 201 0 (by decide) (by decide) wB b0 us vr _ hB hSge hus hb0 (by have hz := hbig; have := hln; omega) (PR.sub hg (by obtain ⟨q, rfl⟩ : ∃ q, f = q + 1 := ⟨f - 1, by omega⟩; rw [hs, declP]; (try simp only [failP, SB, hc1]); repeat constructor))) (fun e wp1 hR' => ?_)
 obtain ⟨x1, us1, val1, vr1, hq1, rfl, hF1, hts1, hbo1, ho1⟩ := hR'
 refine ⟨_, rfl, ?_⟩
 replace hb1 := Fr.oldB hF1 hb1 (n_b0_b1.symm)
 replace hOe := OwnR.frB hOe hF1 hb0 rfl
 replace hOd := OwnR.frB hOd hF1 hb0 rfl
 replace hXe := Xs.frS hXe hF1 (by rintro k rfl; simp)
 replace hXd := Xs.frS hXd hF1 (by rintro k rfl; simp)
 replace hb0 := hbo1
 have hsz1 := hR.size
 replace hR := Fr.then hR hF1 (fun k hk => .inl hk)
 obtain ⟨tm1, rfl, htm1, hmt1⟩ := ho1
 have hx1 := Xs.of_new (B := 0) (M := [some b0, some b1, some b2, Value.ownBlock ve, Value.ownBlock vd]) (K := kTm) htm1 (fun b hb => .inr (hmt1.blk b hb)) (fun _ _ => Nat.zero_le _) hml1
 replace hmt1 := hmt1.mono hsz1
 refine .fieldAddr rfl fo38_2 rfl ?_
 have hsp1 : splice #[ve, vd, zI, zI, zS, zS, zI, zN, zN, zI, zS, zI, zN, zN, zI, zN, zI, zI, zS, zI, zN, zN, zI] 2 tm1.cs = (mkPr ve vd le ld tm1).cs := splice_arm rfl ((Xs.one hx1)).size rfl rfl
 refine At.storePart (cs := tm1.cs) rfl rfl hb1 (sz31.trans (congrArg some ((Xs.one hx1)).size.symm)) (by rw [((Xs.one hx1)).size]; first | decide | exact Nat.le_of_ble_eq_true rfl) ((Xs.one hx1)).one (fun w5 S1 => ?_)
 replace hb0 := S1.other hb0 n_b0_b1
 replace hOe := hOe.set S1 (hOe.neT hb1 rfl)
 replace hOd := hOd.set S1 (hOd.neT hb1 rfl)
 replace hXe := Xs.set hXe S1 (by simp)
 replace hXd := Xs.set hXd S1 (by simp)
 replace hx1 := Xs.set hx1 S1 (by simp)
 replace hb1 : w5.heap[b1]? = some (.cells (mkPr ve vd le ld tm1).cs 38) := (by have q := S1.new; rw [hsp1] at q; exact q)
 replace hR := hR.setF S1 (.inr gb1)
 refine .ops0 (.thenN (.seq (.seq (.region (.move rfl rfl (.nilCheck rfl rfl (.fieldAddr rfl fo102_0 rfl (.fieldAddr rfl fo100_0 rfl (.load rfl (Ld.ownCell ag92 hb0 rfl) rfl (.lenSl rfl (hts1).okL el92 rfl (.gtr rfl rfl rfl (.ops0 (.thenN ?_)))))))))))))
 refine At.cond (b := decide (0 < (us1.length : Int))) rfl (fun hc2 => ?_) (fun hc2 => ?_)
 ·skip
  have hc2' := of_decide_eq_true hc2
  have hc2e : decide (us1 = []) = false := by cases hl : us1 with | nil => simp [hl] at hc2' | cons a b => simp
  refine .region (.move rfl rfl ?_)
  exact (PR.no hg (by obtain ⟨q, rfl⟩ : ∃ q, f = q + 1 := ⟨f - 1, by omega⟩; rw [hs, declP]; simp only [failP, SB, hc1, hc2, hq1, hc2e] <;> rfl)).elim
 have hc2' := of_decide_eq_false hc2
 have hc2e : decide (us1 = []) = true := by cases hl : us1 with | nil => simp | cons a b => simp [hl] at hc2'
 refine .skip (.thenN (.seq (.region (.load rfl (Ld.own ag38 (sz38.trans (congrArg some ((mkPr_ok (OwnR.rows hOe (fun u hu => (((Xs.ok hXe)) u hu).size)) (OwnR.rows hOd (fun u hu => (((Xs.ok hXd)) u hu).size)) ((Xs.ok hXe)) ((Xs.ok hXd)) (Xs.one hx1))).size.symm)) hb1) rfl ?_))))
 refine At.storeAll rfl rfl hb1 (sz38.trans (congrArg some ((mkPr_ok (OwnR.rows hOe (fun u hu => (((Xs.ok hXe)) u hu).size)) (OwnR.rows hOd (fun u hu => (((Xs.ok hXd)) u hu).size)) ((Xs.ok hXe)) ((Xs.ok hXd)) (Xs.one hx1))).size.symm)) (((mkPr_ok (OwnR.rows hOe (fun u hu => (((Xs.ok hXe)) u hu).size)) (OwnR.rows hOd (fun u hu => (((Xs.ok hXd)) u hu).size)) ((Xs.ok hXe)) ((Xs.ok hXd)) (Xs.one hx1))).size.trans ((mkPr_ok (OwnR.rows hOe (fun u hu => (((Xs.ok hXe)) u hu).size)) (OwnR.rows hOd (fun u hu => (((Xs.ok hXd)) u hu).size)) ((Xs.ok hXe)) ((Xs.ok hXd)) (Xs.one hx1))).size.symm) ((mkPr_ok (OwnR.rows hOe (fun u hu => (((Xs.ok hXe)) u hu).size)) (OwnR.rows hOd (fun u hu => (((Xs.ok hXd)) u hu).size)) ((Xs.ok hXe)) ((Xs.ok hXd)) (Xs.one hx1))).one (fun w6 S2 => ?_)
 replace hb0 := S2.other hb0 n_b0_b1
 replace hOe := hOe.set S2 (hOe.neT hb1 rfl)
 replace hOd := hOd.set S2 (hOd.neT hb1 rfl)
 replace hXe := Xs.set hXe S2 (by simp)
 replace hXd := Xs.set hXd S2 (by simp)
 replace hx1 := Xs.set hx1 S2 (by simp)
 replace hb1 : w6.heap[b1]? = some (.cells (mkPr ve vd le ld tm1).cs 38) := S2.new
 replace hR := hR.setF S2 (.inr gb1)
 refine .ops0 (.thenN (.retc (.doneR (ResV.cell rfl (Ld.own ag38 (sz38.trans (congrArg some ((mkPr_ok (OwnR.rows hOe (fun u hu => (((Xs.ok hXe)) u hu).size)) (OwnR.rows hOd (fun u hu => (((Xs.ok hXd)) u hu).size)) ((Xs.ok hXe)) ((Xs.ok hXd)) (Xs.one hx1))).size.symm)) hb1) ResV.nil) ?_)))
 exact RetP.ok (x := (⟨xe, xd, x1⟩ : SPr)) (by obtain ⟨q, rfl⟩ : ∃ q, f = q + 1 := ⟨f - 1, by omega⟩; rw [hs, declP]; simp only [failP, SB, hc1, hc2, hq1, hc2e] <;> rfl) hR hts1 hb0 (okP_made (OwnR.rows hOe (fun u hu => (((Xs.ok hXe)) u hu).size)) (OwnR.rows hOd (fun u hu => (((Xs.ok hXd)) u hu).size)) (Xs.ok hXe) (Xs.ok hXd) (Xs.one hx1) hAe hAd hmt1 (fun hn => OwnR.vbGe hOe gOe hn) (fun hn => OwnR.vbGe hOd gOd hn))
def ifaceB (P : Program) (t : TypeId) : Bool := match P.underlying t with | some (.interface _) => true | _ => false
def plainB (P : Program) (t : TypeId) : Bool := match P.underlying t with | some (.struct _) => true | _ => false
section
variable {P : Program} {N : Nat} {ds : List Deferred} {L : List (Nat × Value)} {w : World} {ops : Array Oper} {Q : Exit → Act → World → Prop} {rest : List Oper} {d : Nat} {ty : TypeId} {pos : String} {aft : Array Edge} {x : Operand}
theorem eqIn_nil (k : Nat) {t : TypeId} {ms : Array (String × TypeId)} (h : P.underlying t = some (.interface ms)) : (Op.equalIn (k + 1) t .nilIface .nilIface).run P w = .ok true w := by simp [Op.equalIn, run_underlying h]
theorem run_neq_nil {t : TypeId} (h : ifaceB P t = true) : (binOp .neq t .nilIface .nilIface).run P w = .ok (.bool false) w := by
  unfold ifaceB at h
  split at h
  · rename_i ms hu
    have : (Op.equal t .nilIface .nilIface).run P w = .ok true w := eqIn_nil 9999 hu
    simp only [binOp]
    simp [this]
  · cases h
theorem At.neNil {t t' : TypeId} (hx : ev L x = some .nilIface) (hi : ifaceB P t = true) (hN : Nat.blt d N = true) (k : At N ds ((d, .bool false) :: L) (wpList P ops Q rest) w) :
    At N ds L (wpList P ops Q (⟨some d, .binOp .neq t x (.const .nilIface) t', ty, pos, aft, none⟩ :: rest)) w :=
  At.op rfl rfl hN (fun a ha => by
    have h := run_neq_nil (P := P) (w := w) hi
    have e : a.eval (.const .nilIface) = .nilIface := rfl
    simp [execOp, ha.ev hx, e, eqGuard, h]) k
theorem wpS_recover {id d6 d3 : Nat} {ty1 ty2 : TypeId} {pos1 pos2 : String} {aft1 aft2 : Array Edge} {Q : Exit → Act → List Frame → World → Prop} {a : Act} {cs cs2 : List Frame} {v : Value} (hN6 : Nat.blt d6 N = true) (hN3 : Nat.blt d3 N = true) (ha : Is N ds L a)
    (hr : (recoverD cs = none ∧ v = .nilIface ∧ cs2 = cs) ∨ recoverD cs = some (v, cs2)) (h : ∀ a', Is N ds ((d3, v) :: (d6, v) :: L) a' → Q .normal a' cs2 w) :
    (Code.region id #[⟨some d6, .call ⟨.builtin .recover, #[], #[]⟩, ty1, pos1, aft1, none⟩, ⟨some d3, .assign (.tmp d6), ty2, pos2, aft2, none⟩] false).wpS P Q a cs w := by
  apply wpS_region
  have h1 : (execOp a.eval ⟨some d6, .call ⟨.builtin .recover, #[], #[]⟩, ty1, pos1, aft1, none⟩).run P w = .ok .recover w := by
    simp [execOp, resolve, invoke, builtin]
  have hi : Is N ds ((d6, v) :: L) (a.put (some d6) v) := ha.put hN6
  have h2 : (execOp (a.put (some d6) v).eval ⟨some d3, .assign (.tmp d6), ty2, pos2, aft2, none⟩).run P w = .ok (.value v) w := by
    have := hi.ev (x := .tmp d6) (v := v) (by simp [YtfoolfecjjngpaaGreat.ev, look])
    simp [execOp, this]
  have h3 := h _ (hi.put hN3)
  show wpOpsS P _ Q [0, 1] a cs w
  rcases hr with ⟨e1, rfl, rfl⟩ | e1
  · simp [wpOpsS, Region.wanted, h1, e1, h2, Oper.upon]; exact h3
  · simp [wpOpsS, Region.wanted, h1, e1, h2, Oper.upon]; exact h3
end
theorem lexW_len' : ∀ (n : Nat) (l : List UInt8), l.length ≤ n → ∀ (a : Nat) (ts : List Tk), lexW a l = .ok ts → ts.length ≤ l.length := by
  intro n
  induction n with
  | zero =>
    intro l hl a ts h
    have : l = [] := List.length_eq_zero_iff.1 (by omega)
    subst this
    rw [lexW_end (show skip [] = [] from skip_zero rfl)] at h; cases h; exact Nat.zero_le _
  | succ n ih =>
    intro l hl a ts h
    by_cases hs : skip l = []
    · rw [lexW_end hs] at h; cases h; exact Nat.zero_le _
    · have hle := skip_le _ l lR
      cases hk : (wordR (skip l)).ok with
      | false => rw [lexW_bad hs hk] at h; cases h
      | true =>
        have hwl := word_le hs hk
        rw [lexW_word hs hk] at h
        cases hr : lexW (a + (l.length - (skip l).length) + (wordR (skip l)).n) ((skip l).drop (wordR (skip l)).n) with
        | ok r =>
          rw [hr] at h
          have h1 := ih _ (by simp only [List.length_drop]; omega) _ _ hr
          cases h
          simp only [List.length_drop, List.length_cons, List.length_append, List.length_nil] at h1 ⊢
          omega
        | bad p => rw [hr] at h; cases h
theorem lexT_len (l : List UInt8) : (lexT l).length ≤ 1048576 := by
  by_cases hb : 1048576 < l.length
  · rw [(lex_big hb).1]; simp
  · cases hl : lexW 0 l with
    | ok ts => rw [(lex_ok hb hl).1]; have := lexW_len' _ l lR _ _ hl; omega
    | bad p => rw [(lex_bad hb hl).1]; simp
section
variable {P : Program} {N : Nat} {L : List (Nat × Value)} {w : World}
theorem At.doneS {fn : Func} {c₀ : Frame} {cs cs2 : List Frame} {R : Ending → FrameMode → World → Prop} {vs : List Value} {u' : FrameMode} (h : ResV P L w fn.results.toList vs) (hcs : cs2 = { c₀ with mode := u' } :: cs) (hR : R (.returned (resOf vs)) u' w) :
    At N [] L ((fun (e : Exit) (a : Act) (w : World) => bodyPostS P fn c₀ cs R e a cs2 w) .normal) w := fun a ha => ⟨ha.defers, u', hcs, _, run_results ha h, hR⟩
end
theorem parseR_lex {l : List UInt8} (h : lexE l ≠ 0) : parseR l = (none, (lexA l : Int), lexE l) := by rw [parseR, if_neg h]
theorem parseR_bad {l : List UInt8} {a c : Int} (h : lexE l = 0) (hp : programP (l.length : Int) (lexT l) = .bad a c) : parseR l = (none, a, c) := by rw [parseR, if_pos h, hp]
theorem parseR_deep {l : List UInt8} {x : SPr} {us : List Tk} (h : lexE l = 0) (hp : programP (l.length : Int) (lexT l) = .ok x us) (hd : 200 < dS x.body) : parseR l = (none, 0, 6) := by
  rw [parseR, if_pos h, hp]; simp only; rw [if_pos hd]
theorem parseR_ok {l : List UInt8} {x : SPr} {us : List Tk} (h : lexE l = 0) (hp : programP (l.length : Int) (lexT l) = .ok x us) (hd : ¬ 200 < dS x.body) : parseR l = (some x, 0, 0) := by
  rw [parseR, if_pos h, hp]; simp only; rw [if_neg hd]
theorem parseR_good {l : List UInt8} (h : (parseR l).1.isSome = true) : lexE l = 0 ∧ (programP (l.length : Int) (lexT l)).isOk = true ∧ ∀ x us, programP (l.length : Int) (lexT l) = .ok x us → ¬ 200 < dS x.body := by
  by_cases hE : lexE l = 0
  · cases hp : programP (l.length : Int) (lexT l) with
    | ok x us =>
      refine ⟨hE, rfl, fun y vs e hd => ?_⟩
      cases e
      rw [parseR_deep hE hp hd] at h; cases h
    | bad a c => rw [parseR_bad hE hp] at h; cases h
  · rw [parseR_lex hE] at h; cases h
section
variable {P : Program} {N : Nat} {ds : List Deferred} {L : List (Nat × Value)} {w : World} {c : Code} {Q : Exit → Act → World → Prop} {K : Act → World → Prop}
end
theorem ag71 : aggB Tryz.prog 71 = some false := by kernel_rfl
theorem en35 : entB Tryz.prog 35 = true := by kernel_rfl
theorem en36 : entB Tryz.prog 36 = true := by kernel_rfl
theorem en37 : entB Tryz.prog 37 = true := by kernel_rfl
theorem en38 : entB Tryz.prog 38 = true := by kernel_rfl
theorem if20 : ifaceB Tryz.prog 20 = true := by kernel_rfl
theorem sd100 : sizedB Tryz.prog 100 = true := by kernel_rfl
theorem sd102 : sizedB Tryz.prog 102 = true := by kernel_rfl
theorem sz71 : sizeB Tryz.prog 71 = some 1 := by kernel_rfl
theorem ze100 : zeroB Tryz.prog 100 = some (.agg #[(.slice none 0 0), .int .i64 0]) := by kernel_rfl
theorem ze102 : zeroB Tryz.prog 102 = some (.agg #[(.slice none 0 0), .int .i64 0, .int .i64 0]) := by kernel_rfl
theorem ze71 : zeroB Tryz.prog 71 = some (.int .i64 0) := by kernel_rfl
theorem catch_ret (bx ba be : Nat) (w : World) : CallsD Tryz.prog 36 ([.pointer (some ⟨bx, 0, none⟩), .pointer (some ⟨ba, 0, none⟩), .pointer (some ⟨be, 0, none⟩)] : List Value).toArray .returning w fun e u' w' => u' = .returning ∧ ((∃ v, e = .returned v) ∧ w' = w) := by
 have hR := Fr.refl (fun k => k = bx ∨ k = ba ∨ k = be) w
 refine callsD_of_wpS Tryz.func36 rfl fun c₀ cs hu => ?_
 refine wpS_seq ?_
 refine wpS_recover (N := 22) (L := [(0, .pointer (some ⟨bx, 0, none⟩)), (1, .pointer (some ⟨ba, 0, none⟩)), (2, .pointer (some ⟨be, 0, none⟩))]) (ds := []) (v := .nilIface) (cs2 := c₀ :: cs) rfl rfl (Is.start (N := 22) (fn := Tryz.f36) (args := ([.pointer (some ⟨bx, 0, none⟩), .pointer (some ⟨ba, 0, none⟩), .pointer (some ⟨be, 0, none⟩)] : List Value)) rfl (by simp) [(0, .pointer (some ⟨bx, 0, none⟩)), (1, .pointer (some ⟨ba, 0, none⟩)), (2, .pointer (some ⟨be, 0, none⟩))] (by simp)) (.inl ⟨by simp [recoverD, hu], rfl, rfl⟩) (fun act_ ha => ?_)
 show Code.wpS _ _ _ act_ _ w
 refine wpS_of_wp ?_
 refine At.seq ?_ act_ ha
 refine .region (.move rfl rfl (.neNil rfl if20 rfl (.ops0 (.thenN (.condF rfl (.skip (.doneS (u' := .returning) (ResV.nil) (by cases c₀; simp only at hu; subst hu; rfl) ?_)))))))
 exact ⟨rfl, ⟨_, rfl⟩, rfl⟩
theorem parse_any (v : Value) (l : List UInt8) (m : Int) (w : World) (hv : BytesAt w v l) (hm : w.cell? ⟨0, 0, none⟩ = some (.int .i64 m)) (hg : lexE l = 0 ∧ (programP (l.length : Int) (lexT l)).isOk = true ∧ ∀ x us, programP (l.length : Int) (lexT l) = .ok x us → ¬ 200 < dS x.body) :
  Calls Tryz.prog 28 ([v] : List Value).toArray w fun e w' => ∃ p : Pr, e = .returned (.tuple #[.agg p.cs, .int .i64 (parseR l).2.1, .int .i64 (parseR l).2.2]) ∧ Below w.heap.size w w' ∧ PrOk w' p ∧ shPr p = (parseR l).1.getD zP ∧ plT p.body ∧ ∀ b, prBlk p b → w.heap.size ≤ b := by
 have hB := Below.refl w.heap.size w
 refine At.enterD (Q := bodyPostD _ _ _) (N := 31) Tryz.func28 rfl rfl (by simp) [(0, v)] (by simp) (fun _ _ _ h => h) ?_
 refine .seq (.region ?_)
 refine At.alloc ze38 rfl (fun b1 w1 F1 => ?_)
 have gb1 := F1.ge hB
 have hb1 : w1.heap[b1]? = some (.cells #[zN, zN, zI, zI, zS, zS, zI, zN, zN, zI, zS, zI, zN, zN, zI, zN, zI, zI, zS, zI, zN, zN, zI] 38) := F1.new
 replace hB := F1.below' hB
 refine At.alloc ze3 rfl (fun b2 w2 F2 => ?_)
 have n_b1_b2 := F2.ne' hb1
 have gb2 := F2.ge hB
 replace hb1 := F2.old hb1
 have hb2 : w2.heap[b2]? = some (.cells #[zI] 3) := F2.new
 replace hB := F2.below' hB
 refine At.alloc ze71 rfl (fun b3 w3 F3 => ?_)
 have n_b1_b3 := F3.ne' hb1
 have n_b2_b3 := F3.ne' hb2
 have gb3 := F3.ge hB
 replace hb1 := F3.old hb1
 replace hb2 := F3.old hb2
 have hb3 : w3.heap[b3]? = some (.cells #[zI] 71) := F3.new
 replace hB := F3.below' hB
 refine .ops0 (.thenN (.seq (.region (.move rfl rfl ?_))))
 refine At.call en35 rfl rfl (lex_any v l m _ (BytesAt.keep hv hB) (cell_keep hm hB)) (fun e w4 hR => ?_)
 obtain ⟨vt1, rfl, hbl1, hO1, ghO1⟩ := hR
 refine ⟨_, rfl, ?_⟩
 replace ghO1 : ∀ g, Value.ownBlock vt1 = some g → w.heap.size ≤ g := fun g h => Nat.le_trans hB.size (ghO1 g h)
 replace hb1 := Below.old hbl1 hb1
 replace hb2 := Below.old hbl1 hb2
 replace hb3 := Below.old hbl1 hb3
 replace hB := Below.andThen hB hbl1
 refine .move rfl rfl (.extract rfl rfl rfl (.extract rfl rfl rfl (.extract rfl rfl rfl (.assign rfl rfl ?_))))
 refine At.store1 rfl rfl hb2 sz3 (by simp) rfl (fun w5 S1 => ?_)
 replace hb1 := S1.other hb1 n_b1_b2
 replace hb3 := S1.other hb3 n_b2_b3.symm
 replace hO1 := hO1.set S1 (hO1.neT hb2 rfl)
 replace hb2 : w5.heap[b2]? = some (.cells #[.int .i64 (lexA l : Int)] 3) := S1.new
 replace hB := S1.below' hB gb2
 refine At.store1 rfl rfl hb3 sz71 (by simp) rfl (fun w6 S2 => ?_)
 replace hb1 := S2.other hb1 n_b1_b3
 replace hb2 := S2.other hb2 n_b2_b3
 replace hO1 := hO1.set S2 (hO1.neT hb3 rfl)
 replace hb3 : w6.heap[b3]? = some (.cells #[.int .i64 (lexE l)] 71) := S2.new
 replace hB := S2.below' hB gb3
 refine .ops0 (.thenN (.seq (.seq (.region (.load rfl (Ld.ownCell ag71 hb3 rfl) rfl (.neI rfl rfl rfl (.ops0 (.thenN ?_))))))))
 refine At.cond (b := (!decide ((lexE l) = 0))) rfl (fun hc1 => ?_) (fun hc1 => ?_)
 ·skip
  have hE : lexE l ≠ 0 := by simpa using hc1
  exact absurd hg.1 hE
 have hE : lexE l = 0 := by simpa using hc1
 refine .skip (.thenN (.seq (.region (.makeFunc rfl rfl (.deferV rfl (.ops0 (.thenN (.seq ?_))))))))
 have htk : RowsAt w6 vt1 4 (((lexT l)).map Tk.cs) := (OwnR.rows hO1 (fun u hu => (((fun u _ => tk_ok u)) u hu).size))
 refine .region (.move rfl rfl (.move rfl rfl (.lenSl rfl hv.ok el74 rfl (.build (C := #[vt1, .int .i64 (l.length : Int)]) sd100 ze100 rfl (Bld.one fo100_0 (hO1).one (by first | decide | exact Nat.le_of_ble_eq_true rfl | simp [Value.cells]) (Bld.cons fo100_1 rfl (lB rfl) (Bld.nil _))) rfl (.build (C := #[vt1, .int .i64 (l.length : Int), zI]) sd102 ze102 rfl (Bld.cons fo102_0 rfl (lB rfl) (Bld.nil _)) rfl ?_)))))
 refine At.box rfl rfl (fun b4 w7 F4 => ?_)
 have n_b1_b4 := F4.ne' hb1
 have n_b2_b4 := F4.ne' hb2
 have n_b3_b4 := F4.ne' hb3
 have gb4 := F4.ge hB
 replace hb1 := F4.old hb1
 replace hb2 := F4.old hb2
 replace hb3 := F4.old hb3
 replace hO1 := hO1.fresh F4
 have hb4 : w7.heap[b4]? = some (.cells #[vt1, .int .i64 (l.length : Int), zI] 102) := F4.new
 replace hB := F4.below' hB
 have hmlp : MLt w7.heap.size [some b1, some b2, some b3, some b4, Value.ownBlock vt1] := (MLt.blk hb1 (MLt.blk hb2 (MLt.blk hb3 (MLt.blk hb4 (MLt.own hO1 (MLt.nil _))))))
 have hszp := hB.size
 refine At.call en37 rfl rfl (program_any (wB := w6) (lexT l) vt1 _ (Fresh.belowSelf F4) (fun k e => by have := F4.eq; omega) htk hb4 (Nat.le_trans (lexT_len l) (by decide)) hg.2.1) (fun e wp hR' => ?_)
 obtain ⟨xp, us, val, vp, hq, rfl, hF, htsp, hbp, hop⟩ := hR'
 refine ⟨_, rfl, ?_⟩
 obtain ⟨p, rfl, hp, hsh, hpl, hpb⟩ := hop
 have hXp := Xs.of_new (B := 0) (M := [some b1, some b2, some b3, some b4, Value.ownBlock vt1]) (K := kPr) hp (fun b hb => .inr (hpb b hb)) (fun _ _ => Nat.zero_le _) hmlp
 replace hpb := fun b hb => Nat.le_trans hszp (hpb b hb)
 replace hb1 := Fr.oldB hF hb1 n_b1_b4
 replace hb2 := Fr.oldB hF hb2 n_b2_b4
 replace hb3 := Fr.oldB hF hb3 n_b3_b4
 clear hO1
 replace hB := Fr.below hF hB hB.size (fun k e => e ▸ gb4)
 clear hb4
 refine At.storeAll rfl rfl hb1 (sz38.trans (congrArg some ((Xs.one hXp)).size.symm)) ((Xs.one hXp)).size.symm ((Xs.one hXp)).one (fun w8 S3 => ?_)
 replace hb2 := S3.other hb2 n_b1_b2.symm
 replace hb3 := S3.other hb3 n_b1_b3.symm
 replace hXp := Xs.set hXp S3 (by simp)
 replace hb1 : w8.heap[b1]? = some (.cells p.cs 38) := S3.new
 replace hB := S3.below' hB gb1
 refine .ops0 (.thenN (.seq (.seq (.region (.fieldAddr rfl fo38_2 rfl (.load rfl (Ld.ownPart ag31 (sz31.trans (congrArg some (((Xs.one hXp)).bodyOk).size.symm)) hb1 ((Xs.one hXp)).bodyCs) rfl ?_))))))
 refine At.call en38 rfl rfl (Depth_any p.body _ ((Xs.one hXp)).bodyOk) (fun e w9 hR => ?_)
 obtain ⟨rfl, hbl2⟩ := hR
 refine ⟨_, rfl, ?_⟩
 replace hb1 := Below.old hbl2 hb1
 replace hb2 := Below.old hbl2 hb2
 replace hb3 := Below.old hbl2 hb3
 replace hXp := Xs.below hXp hbl2
 replace hB := Below.andThen hB hbl2
 refine .gtr rfl rfl rfl (.ops0 (.thenN ?_))
 refine At.cond (b := decide (200 < ((min 1000 (dS (shT p.body)) : Nat) : Int))) rfl (fun hc2 => ?_) (fun hc2 => ?_)
 ·skip
  have hc2' := of_decide_eq_true hc2
  exact absurd (by rw [← hsh]; show 200 < dS (shT p.body); omega) (hg.2.2 _ _ hq)
 have hc2' := of_decide_eq_false hc2
 refine .skip (.thenN (.seq (.region (.load rfl (Ld.own ag38 (sz38.trans (congrArg some ((Xs.one hXp)).size.symm)) hb1) rfl ?_))))
 refine At.storeAll rfl rfl hb1 (sz38.trans (congrArg some ((Xs.one hXp)).size.symm)) (((Xs.one hXp)).size.trans ((Xs.one hXp)).size.symm) ((Xs.one hXp)).one (fun w10 S4 => ?_)
 replace hb2 := S4.other hb2 n_b1_b2.symm
 replace hb3 := S4.other hb3 n_b1_b3.symm
 replace hXp := Xs.set hXp S4 (by simp)
 replace hb1 : w10.heap[b1]? = some (.cells p.cs 38) := S4.new
 replace hB := S4.below' hB gb1
 refine At.store1 rfl rfl hb2 sz3 (by simp) rfl (fun w11 S5 => ?_)
 replace hb1 := S5.other hb1 n_b1_b2
 replace hb3 := S5.other hb3 n_b2_b3.symm
 replace hXp := Xs.set hXp S5 (by simp)
 replace hb2 : w11.heap[b2]? = some (.cells #[zI] 3) := S5.new
 replace hB := S5.below' hB gb2
 refine At.store1 rfl rfl hb3 sz71 (by simp) rfl (fun w12 S6 => ?_)
 replace hb1 := S6.other hb1 n_b1_b3
 replace hb2 := S6.other hb2 n_b2_b3
 replace hXp := Xs.set hXp S6 (by simp)
 replace hb3 : w12.heap[b3]? = some (.cells #[zI] 71) := S6.new
 replace hB := S6.below' hB gb3
 refine .ops0 (.thenN (.retc ?_))
 refine At.doneRet en36 (catch_ret _ _ _ _) (fun w9 e => ?_)
 subst e
 refine ⟨_, (ResV.cell rfl (Ld.own ag38 (sz38.trans (congrArg some ((Xs.one hXp)).size.symm)) hb1) (ResV.cell rfl (Ld.ownCell ag3 hb2 rfl) (ResV.cell rfl (Ld.ownCell ag71 hb3 rfl) ResV.nil))), ?_⟩
 exact ⟨p, by rw [parseR_ok hE hq (by rw [← hsh]; show ¬ 200 < dS (shT p.body); omega)]; rfl, hB, Xs.one hXp, by rw [parseR_ok hE hq (by rw [← hsh]; show ¬ 200 < dS (shT p.body); omega)]; exact hsh, hpl, hpb⟩
theorem BytesAt.own {w : World} {b n : Nat} {l : List UInt8} {T : TypeId} {fr : Nat × Nat} (h : w.heap[b]? = some (.cells (l.map fun u => Value.int .u8 (u.toNat : Int)).toArray T fr)) (hn : n = l.length) (hl : n ≤ 9223372036854775807) : BytesAt w (.slice (some ⟨b, 0, none⟩) n n) l := by
  refine RowsAt.own (rows := l.map fun u => #[Value.int .u8 (u.toNat : Int)]) (sz := 1) (T := T) (fr := fr) ?_ (by intro r hr; obtain ⟨u, _, rfl⟩ := List.mem_map.1 hr; rfl) (by simpa using hn) lR hl
  rw [h]
  congr 3
  clear h hn
  induction l with
  | nil => rfl
  | cons a r ih => rw [List.map_cons, List.map_cons, List.flatMap_cons, ← ih]; rfl
theorem lex_word {a : Nat} {w r : List UInt8} {t : Tk} (hb : blank1 (w ++ r) = 0) (hn : w ≠ []) (hw : wordR (w ++ r) = ⟨t, w.length, true⟩) : lexW a (w ++ r) = LR.pre [t.put a] (lexW (a + w.length) r) := by
  have hs : skip (w ++ r) = w ++ r := skip_zero hb
  have hk : (wordR (skip (w ++ r))).ok = true := by rw [hs, hw]
  rw [lexW_word (by rw [hs]; simp [hn]) hk, hs, hw]
  simp
theorem lexW_cong {a a' : Nat} {l l' : List UInt8} (h : skip l = skip l') (e : a + (l.length - (skip l).length) = a' + (l'.length - (skip l').length)) : lexW a l = lexW a' l' := by
  by_cases hs : skip l = []
  · rw [lexW_end hs, lexW_end (by rw [← h]; exact hs)]
  · have hs' : skip l' ≠ [] := by rw [← h]; exact hs
    cases hk : (wordR (skip l)).ok with
    | false => rw [lexW_bad hs hk, lexW_bad hs' (by rw [← h]; exact hk), e]
    | true => rw [lexW_word hs hk, lexW_word hs' (by rw [← h]; exact hk), e]; simp only [← h]
theorem skip_sp (r : List UInt8) : skip (32 :: r) = skip r := by
  have h1 : whileN blkB (32 :: r) = whileN blkB r + 1 := by unfold whileN; rw [List.takeWhile_cons, if_pos (by decide)]; rfl
  have hb : blank1 (32 :: r) = whileN blkB r + 1 := by
    unfold blank1; rw [h1, if_neg (by simp; omega)]
  rw [skip_more (by omega), hb, List.drop_succ_cons]
  by_cases h : whileN blkB r = 0
  · rw [h, List.drop_zero]
  · have hb2 : blank1 r = whileN blkB r := by unfold blank1; rw [if_neg (by simp; omega)]
    rw [skip_more (l := r) (by omega), hb2]
theorem lex_sp (a : Nat) (r : List UInt8) : lexW a (32 :: r) = lexW (a + 1) r :=
  lexW_cong (skip_sp r) (by have := skip_le _ r lR; rw [skip_sp]; simp only [List.length_cons]; omega)
theorem lex_nil (a : Nat) : lexW a [] = .ok [] := lexW_end (show skip [] = [] from skip_zero rfl)
def Lx (l : List UInt8) (Q : List Tk → Prop) : Prop := ∀ a, ∃ ts, lexW a l = .ok ts ∧ Q ts
theorem Lx.word {w r : List UInt8} {k n : Int} {Q : List Tk → Prop} (hr : Lx r (fun ts => ∀ a, Q (⟨k, w, n, a⟩ :: ts))) (hb : blank1 (w ++ r) = 0) (hn : w ≠ []) (hw : wordR (w ++ r) = ⟨⟨k, w, n, 0⟩, w.length, true⟩) : Lx (w ++ r) Q := fun a => by
  obtain ⟨ts, h1, h2⟩ := hr (a + w.length)
  exact ⟨⟨k, w, n, (a : Int)⟩ :: ts, by rw [lex_word hb hn hw, h1]; rfl, h2 _⟩
theorem Lx.sp {r : List UInt8} {Q : List Tk → Prop} (hr : Lx r Q) : Lx (32 :: r) Q := fun a => by rw [lex_sp]; exact hr (a + 1)
theorem Lx.nil {Q : List Tk → Prop} (h : Q []) : Lx [] Q := fun a => ⟨[], lex_nil a, h⟩
theorem Lx.mono {l : List UInt8} {Q Q' : List Tk → Prop} (h : Lx l Q) (k : ∀ ts, Q ts → Q' ts) : Lx l Q' := fun a => by
  obtain ⟨ts, h1, h2⟩ := h a
  exact ⟨ts, h1, k ts h2⟩
structure Gr (M : List (Option Nat)) (w : World) (M' : List (Option Nat)) (w' : World) : Prop where
  os : w'.os = w.os
  tape : w'.tape = w.tape
  output : w'.output = w.output
  size : w.heap.size ≤ w'.heap.size
  old : ∀ {b : Nat} {x : Obj}, some b ∉ M → w.heap[b]? = some x → w'.heap[b]? = some x
  out : ∀ {b : Nat}, b < w.heap.size → some b ∉ M → some b ∉ M'
def Nw (M : List (Option Nat)) (w : World) (M' : List (Option Nat)) : Prop := ∀ g, some g ∈ M' → some g ∈ M ∨ w.heap.size ≤ g
theorem Nw.nil (M : List (Option Nat)) (w : World) : Nw M w [] := fun _ h => by cases h
theorem Nw.cons {M M' : List (Option Nat)} {w : World} {o : Option Nat} (h : ∀ g, o = some g → some g ∈ M ∨ w.heap.size ≤ g) (k : Nw M w M') : Nw M w (o :: M') := fun g hg => by
  rcases List.mem_cons.1 hg with e | e
  · exact h g e.symm
  · exact k g e
section
variable {M M' M2 : List (Option Nat)} {w w' w2 : World} {b : Nat} {o : Obj}
theorem lt_of_obj {w : World} {b : Nat} {x : Obj} (h : w.heap[b]? = some x) : b < w.heap.size := (Array.getElem?_eq_some_iff.1 h).1
theorem Gr.refl (M : List (Option Nat)) (w : World) : Gr M w M w := ⟨rfl, rfl, rfl, Nat.le_refl _, fun _ h => h, fun _ h => h⟩
theorem Gr.trans (h : Gr M w M' w') (k : Gr M' w' M2 w2) : Gr M w M2 w2 :=
  ⟨k.os.trans h.os, k.tape.trans h.tape, k.output.trans h.output, Nat.le_trans h.size k.size, fun hb hx => k.old (h.out (lt_of_obj hx) hb) (h.old hb hx), fun hl hb => k.out (Nat.lt_of_lt_of_le hl h.size) (h.out hl hb)⟩
theorem Gr.fresh (h : Gr M w M' w') (F : Fresh w' w2 b o) : Gr M w M' w2 :=
  ⟨F.grown.os.trans h.os, F.grown.tape.trans h.tape, F.grown.output.trans h.output, Nat.le_trans h.size F.grown.size, fun hb hx => F.old (h.old hb hx), h.out⟩
theorem Gr.set (h : Gr M w M' w') (S : SetB w' w2 b o) (hb : some b ∈ M ∨ w.heap.size ≤ b) : Gr M w M' w2 :=
  ⟨S.grown.os.trans h.os, S.grown.tape.trans h.tape, S.grown.output.trans h.output, Nat.le_trans h.size S.grown.size, fun {c x} hc hx => S.other (h.old hc hx) fun e => by
    subst e
    rcases hb with hb | hb
    · exact hc hb
    · have := lt_of_obj hx; omega, h.out⟩
theorem Gr.app {v v' : Value} (h : Gr M w M' w') (A : AppR w' w2 v v') (hb : ∀ g, v.ownBlock = some g → some g ∈ M ∨ w.heap.size ≤ g) : Gr M w M' w2 :=
  ⟨A.grown.os.trans h.os, A.grown.tape.trans h.tape, A.grown.output.trans h.output, Nat.le_trans h.size A.grown.size, fun {c x} hc hx => A.old (h.old hc hx) fun e => by
    rcases hb c e.symm with hb | hb
    · exact hc hb
    · have := lt_of_obj hx; omega, h.out⟩
theorem Gr.drew (h : Gr M w M' w') : Gr M w M' w'.drew := ⟨h.os, h.tape, h.output, h.size, h.old, h.out⟩
theorem Gr.below (h : Gr M w M' w') (hB : Below w'.heap.size w' w2) : Gr M w M' w2 :=
  ⟨hB.os.trans h.os, hB.tape.trans h.tape, hB.output.trans h.output, Nat.le_trans h.size hB.size, fun hb hx => Below.old hB (h.old hb hx), h.out⟩
theorem Gr.to (h : Gr M w M' w') (hM : Nw M w M2) : Gr M w M2 w' := ⟨h.os, h.tape, h.output, h.size, h.old, fun {c} hl hb hm => by
  rcases hM c hm with e | e
  · exact hb e
  · omega⟩
theorem Gr.base (h : Gr [] w M' w') : Below w.heap.size w w' := ⟨h.os, h.tape, h.output, h.size, fun k hk => by
  rw [Array.getElem?_eq_getElem hk]
  exact h.old (by simp) (Array.getElem?_eq_getElem hk)⟩
theorem Gr.cell {a : Addr} {v : Value} (h : Gr M w M' w') (hm : some a.block ∉ M) (hc : w.cell? a = some v) : w'.cell? a = some v := by
  have hl := cell_lt hc
  have := h.old hm (Array.getElem?_eq_getElem hl)
  rw [← hc]
  simp only [World.cell?]
  rw [this, Array.getElem?_eq_getElem hl]
theorem RowsAt.gr {v : Value} {sz : Nat} {rows : List (Array Value)} (h : RowsAt w v sz rows) (hG : Gr M w M' w') (hm : rows ≠ [] → some (vBlock v) ∉ M) : RowsAt w' v sz rows :=
  ⟨h.ok, h.size, fun i cs hi j x hx => hG.cell (hm fun e => by rw [e] at hi; simp at hi) (h.at_ i cs hi j x hx), h.len⟩
theorem Xs.gr {α : Type} {K : Kd α} {l : List α} (h : Xs K M w l) (hG : Gr M w M' w') : Xs K M' w' l := fun u hu => ⟨K.keep (h u hu).1 fun c hc => by
  have hl := K.lt (h u hu).1 hc
  rw [Array.getElem?_eq_getElem hl]
  exact hG.old ((h u hu).2 c hc) (Array.getElem?_eq_getElem hl), fun c hc => hG.out (K.lt (h u hu).1 hc) ((h u hu).2 c hc)⟩
end
def mx (pre : List Value) (c : Array Value) (post : List Value) : Array Value := (pre ++ (c.toList ++ post)).toArray
section
variable {pre post : List Value} {c : Array Value} {n : Nat}
theorem mx_size (hc : c.size = 21) : (mx pre c post).size = pre.length + (21 + post.length) := by simp [mx, hc]
theorem mx_pre {i : Nat} {v : Value} (h : pre[i]? = some v) : (mx pre c post)[i]? = some v := by
  have : i < pre.length := (List.getElem?_eq_some_iff.1 h).1
  simp [mx, List.getElem?_append_left this, h]
theorem mx_post {j : Nat} {v : Value} (hc : c.size = 21) (h : post[j]? = some v) : (mx pre c post)[pre.length + 21 + j]? = some v := by
  have e : pre.length + 21 + j = pre.length + (c.toList.length + j) := by simp [hc]; omega
  rw [e]
  simp only [mx, List.getElem?_toArray]
  rw [List.getElem?_append_right (by omega), Nat.add_sub_cancel_left, List.getElem?_append_right (by omega), Nat.add_sub_cancel_left]
  exact h
theorem mx_at {i j : Nat} {v : Value} (hc : c.size = 21) (e : i = pre.length + 21 + j) (h : post[j]? = some v) : (mx pre c post)[i]? = some v := e ▸ mx_post hc h
theorem mx_mid {j : Nat} {v : Value} (h : c[j]? = some v) : (mx pre c post)[pre.length + j]? = some v := by
  have hj : j < c.toList.length := by simpa using (Array.getElem?_eq_some_iff.1 h).1
  simp only [mx, List.getElem?_toArray]
  rw [List.getElem?_append_right (by omega), Nat.add_sub_cancel_left, List.getElem?_append_left hj]
  simpa using h
theorem mx_in {i j : Nat} {v : Value} (e : i = pre.length + j) (h : c[j]? = some v) : (mx pre c post)[i]? = some v := e ▸ mx_mid h
theorem mx_part (hc : c.size = 21) : (mx pre c post).extract pre.length (pre.length + 21) = c := by
  apply Array.ext'
  simp [mx, List.take_append, ← hc]
theorem mx_sub {o m : Nat} {cs : Array Value} (hc : c.size = 21) (j : Nat) (e : o = pre.length + 21 + j) (h : post.toArray.extract j (j + m) = cs) : (mx pre c post).extract o (o + m) = cs := by
  subst e; rw [← h]
  apply Array.ext'
  have a : pre.length + 21 + j = pre.length + (c.toList.length + j) := by simp [hc]; omega
  have b : pre.length + 21 + j + m - pre.length = c.toList.length + j + m := by simp [hc]; omega
  simp only [mx, List.extract_toArray, List.extract_eq_take_drop, Nat.add_sub_cancel_left]
  rw [a, List.drop_append, List.drop_of_length_le (by omega), List.nil_append, Nat.add_sub_cancel_left, List.drop_append, List.drop_of_length_le (by omega), List.nil_append, Nat.add_sub_cancel_left]
theorem mx_set {o j : Nat} {vs : Array Value} {post' : List Value} (hc : c.size = 21) (e : o = pre.length + 21 + j) (h : (splice post.toArray j vs).toList = post') (ho : j + vs.size ≤ post.length) : splice (mx pre c post) o vs = mx pre c post' := by
  subst e h
  apply Array.ext'
  have a : pre.length + 21 + j = (pre ++ c.toList).length + j := by simp [hc]
  have b : pre.length + 21 + j + vs.size = (pre ++ c.toList).length + (j + vs.size) := by simp [hc]; omega
  simp only [splice, mx]
  rw [b, a, ← List.append_assoc, List.take_length_add_append, List.drop_length_add_append]
  simp
theorem mx_setT {o : Nat} {c' : Array Value} (hc : c.size = 21) (hc' : c'.size = 21) (e : o = pre.length) : splice (mx pre c post) o c' = mx pre c' post := by
  subst e
  apply Array.ext'
  have b : pre.length + c'.size = pre.length + c.toList.length := by simp [hc, hc']
  simp only [splice, mx]
  rw [b, List.take_append_of_le_length lR, List.take_length, List.drop_length_add_append, List.drop_left]
  simp
theorem mx_all (hp : pre.all (·.oneCell') = true) (hc : c.all (·.oneCell') = true) (hq : post.all (·.oneCell') = true) : (mx pre c post).all (·.oneCell') = true := by
  simp only [mx, List.all_toArray, List.all_append, hp, hq, Bool.and_true, Bool.true_and]
  simpa using hc
end
inductive X
  | v (k n : Int) (nm : ByteArray) (kids : List X) (f st : X)
  | nil
  | c (self param : ByteArray) (body : ST) (e : X)
  | e (name : ByteArray) (v next : X)
  | s (top next : X)
  | arg (t : ST) (e : X)
  | fn (f : X)
  | bnd (name : ByteArray) (t : ST) (e : X)
  | frk (ways : List ST) (e : X)
  | gat (t : ST) (done : List X) (e : X)
  | way (arms : List SA) (e : X)
  | ask (name : ByteArray)
  | hnd (arms : List SA) (e : X)
inductive So
  | v | c | e | s | f
inductive XAt (M : List (Option Nat)) (nc : Nat) (w : World) : So → List Value → X → Prop
  | v {k n : Int} {nm : ByteArray} {kv fp kp : Value} {f st : X} (rows : List (List Value × X)) (hr : RowsAt w kv 7 (rows.map fun p => p.1.toArray)) (hm : rows ≠ [] → some (vBlock kv) ∉ M) (hk : ∀ p ∈ rows, XAt M nc w .v p.1 p.2)
    (hf : XAt M nc w .c [fp] f) (hs : XAt M nc w .s [kp] st) (h5 : k = 5 → 0 ≤ n ∧ n < nc) (h2 : k = 2 → n = 0 ∨ n = 1) : XAt M nc w .v [.int .i64 k, .int .i64 n, .string nm, .slice none 0 0, kv, fp, kp] (.v k n nm (rows.map Prod.snd) f st)
  | nil {o : So} (ho : o ≠ .v ∧ o ≠ .f) : XAt M nc w o [.pointer none] .nil
  | c {b : Nat} {self param : ByteArray} {t : Tm} {ev : Value} {e : X} (hb : w.heap[b]? = some (.cells (mx [.string self, .string param] t.cs [ev]) 112)) (hm : some b ∉ M) (ht : Xs kTm M w [t]) (he : XAt M nc w .e [ev] e) : XAt M nc w .c [.pointer (some ⟨b, 0, none⟩)] (.c self param (shT t) e)
  | e {b : Nat} {name : ByteArray} {cs : List Value} {nv : Value} {x next : X} (hl : cs.length = 7) (hb : w.heap[b]? = some (.cells (.string name :: (cs ++ [nv])).toArray 155)) (hm : some b ∉ M) (hx : XAt M nc w .v cs x) (hn : XAt M nc w .e [nv] next) : XAt M nc w .e [.pointer (some ⟨b, 0, none⟩)] (.e name x next)
  | s {b : Nat} {tv nv : Value} {top next : X} (hb : w.heap[b]? = some (.cells #[tv, nv] 88)) (hm : some b ∉ M) (ht : XAt M nc w .f [tv] top) (hn : XAt M nc w .s [nv] next) : XAt M nc w .s [.pointer (some ⟨b, 0, none⟩)] (.s top next)
  | arg {t : Tm} {ev : Value} {e : X} (ht : Xs kTm M w [t]) (he : XAt M nc w .e [ev] e) : XAt M nc w .f [.iface 115 (.agg (mx [] t.cs [ev]))] (.arg (shT t) e)
  | fn {cs : List Value} {x : X} (hl : cs.length = 7) (hx : XAt M nc w .v cs x) : XAt M nc w .f [.iface 207 (.agg cs.toArray)] (.fn x)
  | bnd {name : ByteArray} {t : Tm} {ev : Value} {e : X} (ht : Xs kTm M w [t]) (he : XAt M nc w .e [ev] e) : XAt M nc w .f [.iface 117 (.agg (mx [.string name] t.cs [ev]))] (.bnd name (shT t) e)
  | frk {kv ev : Value} {l : List Tm} {e : X} (hl : l.length = 2) (hr : RowsAt w kv 21 (l.map Tm.cs)) (hm : some (vBlock kv) ∉ M) (ht : Xs kTm M w l) (he : XAt M nc w .e [ev] e) : XAt M nc w .f [.iface 121 (.agg #[kv, ev])] (.frk (l.map shT) e)
  | gat {t : Tm} {dv ev : Value} {e : X} (ht : Xs kTm M w [t]) (rows : List (List Value × X)) (hr : RowsAt w dv 7 (rows.map fun p => p.1.toArray)) (hm : rows ≠ [] → some (vBlock dv) ∉ M) (hk : ∀ p ∈ rows, XAt M nc w .v p.1 p.2) (he : XAt M nc w .e [ev] e) : XAt M nc w .f [.iface 124 (.agg (mx [] t.cs [dv, ev]))] (.gat (shT t) (rows.map Prod.snd) e)
  | way {av ev : Value} {l : List Am} {e : X} (hr : RowsAt w av 23 (l.map Am.cs)) (hm : l ≠ [] → some (vBlock av) ∉ M) (ht : Xs kAm M w l) (he : XAt M nc w .e [ev] e) : XAt M nc w .f [.iface 126 (.agg #[av, ev])] (.way (l.map shAm) e)
  | ask {name : ByteArray} : XAt M nc w .f [.iface 128 (.agg #[.string name])] (.ask name)
  | hnd {av ev : Value} {l : List Am} {e : X} (hr : RowsAt w av 23 (l.map Am.cs)) (hm : l ≠ [] → some (vBlock av) ∉ M) (ht : Xs kAm M w l) (he : XAt M nc w .e [ev] e) : XAt M nc w .f [.iface 129 (.agg #[av, ev])] (.hnd (l.map shAm) e)
theorem XAt.gr {M M' : List (Option Nat)} {w w' : World} {nc nc' : Nat} {o : So} {cs : List Value} {x : X} (h : XAt M nc w o cs x) (hG : Gr M w M' w') (hn : nc ≤ nc') : XAt M' nc' w' o cs x := by
  have vb : ∀ {kv : Value} {sz : Nat} {rows : List (Array Value)}, RowsAt w kv sz rows → 0 < sz → rows ≠ [] → vBlock kv < w.heap.size := fun {kv sz rows} h hp hne => by
    obtain ⟨s, r, rfl⟩ := List.exists_cons_of_ne_nil hne
    have h2 : 0 < s.size := by rw [h.size 0 s rfl]; exact hp
    exact cell_lt (h.at_ 0 s rfl 0 _ (Array.getElem?_eq_getElem h2))
  induction h with
  | v rows hr hm hk hf hs h5 h2 ihk ihf ihs =>
    exact .v rows (hr.gr hG fun h => hm (map_ne h)) (fun h => hG.out (vb hr (by decide) (by simpa using h)) (hm h)) ihk ihf ihs (fun e => by have := h5 e; omega) h2
  | nil ho => exact .nil ho
  | c hb hm ht he ihe => exact .c (hG.old hm hb) (hG.out (lt_of_obj hb) hm) (ht.gr hG) ihe
  | e hl hb hm hx hn ihx ihn => exact .e hl (hG.old hm hb) (hG.out (lt_of_obj hb) hm) ihx ihn
  | s hb hm ht hn iht ihn => exact .s (hG.old hm hb) (hG.out (lt_of_obj hb) hm) iht ihn
  | arg ht he ihe => exact .arg (ht.gr hG) ihe
  | fn hl hx ihx => exact .fn hl ihx
  | bnd ht he ihe => exact .bnd (ht.gr hG) ihe
  | frk hl hr hm ht he ihe => exact .frk hl (hr.gr hG fun _ => hm) (hG.out (vb hr (by decide) (fun e => by have := congrArg List.length e; rw [List.length_map, hl] at this; cases this)) hm) (ht.gr hG) ihe
  | gat ht rows hr hm hk he ihk ihe => exact .gat (ht.gr hG) rows (hr.gr hG fun h => hm (map_ne h)) (fun h => hG.out (vb hr (by decide) (by simpa using h)) (hm h)) ihk ihe
  | way hr hm ht he ihe => exact .way (hr.gr hG fun h => hm (map_ne h)) (fun h => hG.out (vb hr (by decide) (by simpa using h)) (hm h)) (ht.gr hG) ihe
  | ask => exact .ask
  | hnd hr hm ht he ihe => exact .hnd (hr.gr hG fun h => hm (map_ne h)) (fun h => hG.out (vb hr (by decide) (by simpa using h)) (hm h)) (ht.gr hG) ihe
end Go.Proofs.YtfoolfecjjngpaaGreat
