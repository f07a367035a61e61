/-
 The walks of atoms and applications. Written by a program of ours.
-/
import Derived.Test.YtkjmjnddanhapaaU4
set_option linter.unusedVariables false
set_option linter.unusedSimpArgs false
namespace Go.Proofs.Ytkjmjnddanhapaa
open Go.RowKit
theorem ag26 : aggB Try.prog 26 = some false := by kernel_rfl
theorem by35 : bytesB Try.prog 35 = some 312 := by kernel_rfl
theorem en106 : entB Try.prog 106 = true := by kernel_rfl
theorem en108 : entB Try.prog 108 = true := by kernel_rfl
theorem fo35_4 : fieldB Try.prog 35 4 = some (4, 1) := by kernel_rfl
theorem ft47_2 : fieldTB Try.prog 47 2 = some (2, 3) := by kernel_rfl
theorem sz26 : sizeB Try.prog 26 = some 1 := by kernel_rfl
theorem atom1_any {wB : World} {b0 : Nat} {en dp : Int} (ts : List Tk) (v : Value) (M : List (Option Nat)) (bx bp : Nat) (vo : Value) (es : List Tm) (ex : List Tk → PR ST) (k a : Int) (nm pm : ByteArray) (n : Int) (w : World) (hB0 : Below wB.heap.size wB w) (hSge : ∀ k, (k = b0 ∨ k = bx ∨ some k = vo.ownBlock) → wB.heap.size ≤ k) (hts : RowsAt wB v 4 (ts.map Tk.cs)) (hb0 : w.heap[b0]? = some (.cells #[v, .int .i64 en, .int .i64 dp] 81)) (hbx : w.heap[bx]? = some (.cells #[.int .i64 k, .int .i64 a, .string nm, .string pm, .int .i64 n, vo, zN, zI, zS, zI, zN, zN, zI, zN, zI, zI, zS, zI, zN, zN, zI] 35)) (hbp : w.heap[bp]? = some (.cells #[.pointer (some ⟨b0, 0, none⟩)] 77)) (hO : OwnR 35 21 Tm.cs w vo es) (hX : Xs kTm (vo.ownBlock :: some b0 :: some bx :: M) w es) (hMl : MLt w.heap.size M) (hnn : es.length + ts.length ≤ 100000000) (hnx : some bx ≠ vo.ownBlock) (hxs : ∀ ts, (ex ts).Sh ts.length) (hex : ExC en dp ex) :
  Calls Try.prog 108 ([.pointer (some ⟨bx, 0, none⟩), .pointer (some ⟨bp, 0, none⟩)] : List Value).toArray w fun e w' => RetP (fun k => k = b0 ∨ k = bx ∨ some k = vo.ownBlock) wB b0 en dp (GrowOk kTm 35 21 Tm.cs MT M (fun v => #[.int .i64 k, .int .i64 a, .string nm, .string pm, .int .i64 n, v, .slice none 0 0, zI, zS, zI, .slice none 0 0, .slice none 0 0, zI, .slice none 0 0, zI, zI, zS, zI, .slice none 0 0, .slice none 0 0, zI]) bx 35 bp b0 77 vo es w) (ex ts) w e w' := by
 have n_b0_bp : b0 ≠ bp := ne_ty hb0 hbp rfl; have n_b0_bx : b0 ≠ bx := ne_ty hb0 hbx rfl; have n_bp_bx : bp ≠ bx := ne_ty hbp hbx rfl; have geO : ∀ g, Value.ownBlock vo = some g → vo.ownBlock = some g ∨ w.heap.size ≤ g := fun g h => .inl h; have htl := hts.lenL
 have hR := Fr.refl (fun k => k = b0 ∨ k = bx ∨ some k = vo.ownBlock) w
 have hB := hB0
 refine At.enter (N := 11) Try.func108 rfl rfl (by simp) [(0, .pointer (some ⟨bx, 0, none⟩)), (1, .pointer (some ⟨bp, 0, none⟩))] (by simp) ?_
 obtain ⟨u1, hu1⟩ := some_of_lt (l := (es ++ [zeroTm])) (i := es.length) (by first | omega | (simp; done) | (simp; omega))
 refine .drawG (n := 11) mixed (by kernel_rfl) rfl PanicOk.body ?_
 have hR := Fr.drewF hR
 have hB := Below.drewB hB
 have hb0 : _ := (show w.drew.heap[b0]? = _ from hb0)
 have hbp : _ := (show w.drew.heap[bp]? = _ from hbp)
 have hbx : _ := (show w.drew.heap[bx]? = _ from hbx)
 have hO := hO.drew
 have hX := Xs.drew hX
 refine At.wpcS (i := 0) (d := 2) (.pointer (some ⟨bx, 0 + 5, none⟩)) (by kernel_rfl) rfl rfl rfl (fun Lx => ?_) ?_
 ·skip
  refine .fieldAddr rfl fo35_5 rfl (.ops0 ?_)
  exact fun a ha => ⟨ha, rfl⟩
 refine At.wpcS (i := 1) (d := 3) (vo) (by kernel_rfl) rfl rfl rfl (fun Lx => ?_) ?_
 ·skip
  refine .load rfl (Ld.ownCell ag26 hbx rfl) rfl (.ops0 ?_)
  exact fun a ha => ⟨ha, rfl⟩
 refine At.wpcS (i := 2) (d := 4) (.pointer (some ⟨b0, 0, none⟩)) (by kernel_rfl) rfl rfl rfl (fun Lx => ?_) ?_
 ·skip
  refine .load rfl (Ld.ownCell ag77 hbp rfl) rfl (.ops0 ?_)
  exact fun a ha => ⟨ha, rfl⟩
 refine At.wpcS (i := 4) (d := 6) (.int .i64 (es.length : Int)) (by kernel_rfl) rfl rfl rfl (fun Lx => ?_) ?_
 ·skip
  refine .lenSl rfl (Own.slOk hO) el26 rfl (.ops0 ?_)
  exact fun a ha => ⟨ha, rfl⟩
 refine At.wpcE [3, 5] (by kernel_rfl) (by kernel_rfl) (.cons [0, 1, 4] rfl (by kernel_rfl) ?_ (.cons [0, 1, 2, 4] rfl (by kernel_rfl) ?_ .nil))
 ·skip
  have hml1 : MLt w.drew.heap.size (some b0 :: some bp :: some bx :: Value.ownBlock vo :: M) := (MLt.blk hb0 (MLt.blk hbp (MLt.blk hbx (MLt.own hO ((MLt.mono hMl hR.size))))))
  refine At.callP en46 rfl rfl (hex wB b0 ts v _ hB (fun k hk => hSge k (.inl hk)) hts hb0 (by have := hnn; omega)) (fun e wp1 hR' => ?_)
  rcases hR'.cases.symm with ⟨ba, bc, hq1, rfl, hF1, hbb⟩ | ⟨x1, us1, val1, vr1, hq1, rfl, hF1, hts1, hbo1, ho1⟩
  ·exact .inr ⟨_, rfl, (Pk.norm (Pk.body (RetP.bad (by simp only [SB, hq1] <;> rfl) (Fr.then hR hF1 (fun k hk => .inl (.inl hk))) hbb)))⟩
  refine .inl ⟨_, rfl, ?_⟩
  replace hbp := Fr.oldB hF1 hbp (n_b0_bp.symm)
  replace hbx := Fr.oldB hF1 hbx (n_b0_bx.symm)
  replace hO := OwnR.frB hO hF1 hb0 rfl
  replace hX := Xs.frS hX hF1 (by rintro k rfl; simp)
  replace hb0 := hbo1
  have hsz1 := hR.size
  replace hR := Fr.then hR hF1 (fun k hk => .inl (.inl hk))
  replace hB := Fr.below hR hB0 hB0.size hSge
  obtain ⟨tm1, rfl, htm1, hmt1⟩ := ho1
  have hx1 := Xs.of_new (B := 0) (M := (some b0 :: some bp :: some bx :: Value.ownBlock vo :: M)) (K := kTm) htm1 (fun b hb => .inr (hmt1.blk b hb)) (fun _ _ => Nat.zero_le _) hml1
  replace hmt1 := hmt1.mono hsz1
  refine .ops0 ?_
  refine At.wpcN (.cons rfl rfl rfl rfl (fun Lx => ?_) (.cons rfl rfl rfl rfl (fun Lx => ?_) (.cons rfl rfl rfl rfl (fun Lx => ?_) .nil))) ?_
  ·skip
   refine .fieldAddr rfl fo35_5 rfl (.ops0 ?_)
   exact fun a ha => ⟨ha, rfl⟩
  ·skip
   refine .load rfl (Ld.ownCell ag26 hbx rfl) rfl (.ops0 ?_)
   exact fun a ha => ⟨ha, rfl⟩
  ·skip
   refine .lenSl rfl (Own.slOk hO) el26 rfl (.ops0 ?_)
   exact fun a ha => ⟨ha, rfl⟩
  refine At.wpcE [5] (by kernel_rfl) (by kernel_rfl) (.cons [0, 1, 4] rfl (by kernel_rfl) ?_ .nil)
  refine At.buildSlice (xs := [.const (.agg #[zI, zI, zS, zS, zI, zN, zN, zI, zS, zI, zN, zN, zI, zN, zI, zI, zS, zI, zN, zN, zI])]) rfl rfl el26 sz35 ze35 (by intro v hv; simp only [List.mem_cons, List.not_mem_nil, or_false] at hv; rcases hv with rfl <;> first | rfl | simp [Value.cells, ((zeroTm_ok _)).size]) rfl (by decide) rfl (fun b1 w1 F1 => ?_)
  have q_hO_b1 : some b1 ≠ Value.ownBlock vo := Own.neFresh hO F1
  have n_b0_b1 : b0 ≠ b1 := Nat.ne_of_lt (F1.lt hb0)
  have n_bp_b1 : bp ≠ b1 := Nat.ne_of_lt (F1.lt hbp)
  have n_bx_b1 : bx ≠ b1 := Nat.ne_of_lt (F1.lt hbx)
  have gb1 := Nat.le_trans hR.size (Nat.le_of_eq F1.eq.symm)
  replace hb0 := F1.old hb0
  replace hbp := F1.old hbp
  replace hbx := F1.old hbx
  replace hO := hO.fresh F1
  replace hX := Xs.fresh hX F1
  replace hx1 := Xs.fresh hx1 F1
  have hb1 : w1.heap[b1]? = some (.cells (([zeroTm].map Tm.cs).flatMap (·.toList)).toArray 35) := F1.new
  replace hR := hR.freshF F1
  replace hB := Fr.below hR hB0 hB0.size hSge
  refine .ops0 ?_
  refine At.wpcN (.cons rfl rfl rfl rfl (fun Lx => ?_) (.cons rfl rfl rfl rfl (fun Lx => ?_) (.cons rfl rfl rfl rfl (fun Lx => ?_) .nil))) ?_
  ·skip
   refine .fieldAddr rfl fo35_5 rfl (.ops0 ?_)
   exact fun a ha => ⟨ha, rfl⟩
  ·skip
   refine .load rfl (Ld.ownCell ag26 hbx rfl) rfl (.ops0 ?_)
   exact fun a ha => ⟨ha, rfl⟩
  ·skip
   refine .lenSl rfl (Own.slOk hO) el26 rfl (.ops0 ?_)
   exact fun a ha => ⟨ha, rfl⟩
  refine At.wpcE [6] (by kernel_rfl) (by kernel_rfl) (.cons [] rfl (by kernel_rfl) ?_ .nil)
  refine At.appendR (f := Tm.cs) rfl rfl el26 el26 sz35 by35 ze35 rfl hO (rows_tm (m := 1) hb1 (mem1 (Q := fun u => TmOk w1 u) (((zeroTm_ok _)).keep (Below.refl _ _))) rfl (by decide)) (by decide) (fun u hu => (((mem1 (Q := fun u => TmOk w1 u) (((zeroTm_ok _)).keep (Below.refl _ _)))) u hu).one) (by first | omega | (simp; omega)) (by first | omega | (simp; omega)) rfl (fun va1 w2 hO1 hA1 => ?_)
  replace hO1 : OwnR 35 21 Tm.cs w2 va1 (es ++ [zeroTm]) := hO1
  replace hb0 := hA1.old hb0 (hO.neT hb0 rfl)
  replace hbp := hA1.old hbp (hO.neT hbp rfl)
  have q_hO1_bx : some bx ≠ Value.ownBlock va1 := Moved.ne hA1.blk (Array.getElem?_eq_some_iff.1 hbx).1 hnx
  replace hbx := hA1.old hbx hnx
  clear hb1
  replace hX := Xs.app hX hA1 (.inr (by simp))
  replace hx1 := Xs.app hx1 hA1 (.inr (by simp))
  have ghO1 := AppR.movedTo hA1 hR.size geO
  replace hR := hR.appF hA1 (fun g hg => (geO g hg).imp (fun h => .inr (.inr h.symm)) id)
  replace hB := Fr.below hR hB0 hB0.size hSge
  refine .ops0 (.wpcN .nil ?_)
  refine At.wpcS (i := 7) (d := 9) (.pointer (some ⟨vBlock va1, vOff va1 + es.length * 21, none⟩)) (by kernel_rfl) rfl rfl rfl (fun Lx => ?_) ?_
  ·skip
   refine .indexAddr (i := es.length) rfl rfl (Own.slOk hO1) (lt_of_some hu1) el26 sz35 rfl (.ops0 ?_)
   exact fun a ha => ⟨ha, rfl⟩
  refine At.wpcS (i := 9) (d := 10) (.pointer (some ⟨bx, 0 + 5, none⟩)) (by kernel_rfl) rfl rfl rfl (fun Lx => ?_) ?_
  ·skip
   refine .fieldAddr rfl fo35_5 rfl (.ops0 ?_)
   exact fun a ha => ⟨ha, rfl⟩
  refine At.wpcE [8, 10] (by kernel_rfl) (by kernel_rfl) (.cons [9] rfl (by kernel_rfl) ?_ (.cons [7] rfl (by kernel_rfl) ?_ .nil))
  ·skip
   refine At.storeRow (f := Tm.cs) (i := es.length) (off := 0) tm1 rfl rfl hO1 hu1 (fun u hu => (((all_app (Q := fun u => TmOk w2 u) (Xs.ok hX) (mem1 (Q := fun u => TmOk w2 u) (((zeroTm_ok _)).keep (Below.refl _ _))))) u hu).size) (by omega) (sz35.trans (congrArg some ((Xs.one hx1)).size.symm)) (splice_all (((((all_app (Q := fun u => TmOk w2 u) (Xs.ok hX) (mem1 (Q := fun u => TmOk w2 u) (((zeroTm_ok _)).keep (Below.refl _ _))))) u1 (List.mem_of_getElem? hu1))).size.trans ((Xs.one hx1)).size.symm)).symm (by show 0 + tm1.cs.size ≤ 21; rw [((Xs.one hx1)).size]; decide) ((Xs.one hx1)).one (fun w3 hO2 hA2 => ?_)
   replace hb0 := hA2.old hb0 (hO1.neT hb0 rfl)
   replace hbp := hA2.old hbp (hO1.neT hbp rfl)
   replace hbx := hA2.old hbx q_hO1_bx
   replace hX := Xs.app hX hA2 (.inr (by simp))
   replace hx1 := Xs.app hx1 hA2 (.inr (by simp))
   replace hR := hR.appF hA2 (fun g hg => (ghO1 g hg).imp (fun h => .inr (.inr h.symm)) id)
   replace hB := Fr.below hR hB0 hB0.size hSge
   refine .ops0 ?_
   refine At.wpcN (.cons rfl rfl rfl rfl (fun Lx => ?_) .nil) ?_
   ·skip
    refine .fieldAddr rfl fo35_5 rfl (.ops0 ?_)
    exact fun a ha => ⟨ha, rfl⟩
   refine At.wpcE [10] (by kernel_rfl) (by kernel_rfl) (.cons [] rfl (by kernel_rfl) ?_ .nil)
   refine At.store1 rfl rfl hbx sz26 (by simp) (hO2).one (fun w4 S1 => ?_)
   replace hb0 := S1.other hb0 n_b0_bx
   replace hbp := S1.other hbp n_bp_bx
   replace hO2 := hO2.set S1 q_hO1_bx
   replace hX := Xs.set hX S1 (by simp)
   replace hx1 := Xs.set hx1 S1 (by simp)
   replace hbx : w4.heap[bx]? = some (.cells #[.int .i64 k, .int .i64 a, .string nm, .string pm, .int .i64 n, va1, zN, zI, zS, zI, zN, zN, zI, zN, zI, zI, zS, zI, zN, zN, zI] 35) := S1.new
   replace hR := hR.setF S1 (.inl (.inr (.inl rfl)))
   replace hB := Fr.below hR hB0 hB0.size hSge
   refine .ops0 (.wpcN .nil (.wpcZ (.doneN (ResV.nil) ?_)))
   exact RetP.ok (by simp only [SB, hq1] <;> rfl) hR hts1 hb0 ⟨rfl, hbp, _, _, hbx, (by have q := hO2; rw [set_snoc] at q; exact q), Xs.append (Xs.weaken hX (by intro o ho; simp only [List.mem_cons] at ho ⊢; rcases ho with h | h | h | h <;> simp [h])) (Xs.weaken (M' := (Value.ownBlock va1 :: some b0 :: some bx :: M)) hx1 (SubM.cons (.head _) (SubM.cons (.tail _ (.tail _ (.tail _ (.head _)))) (SubM.cons (.tail _ (.tail _ (.tail _ (.tail _ (.tail _ (.head _)))))) (fun o h => (.tail _ (.tail _ (.tail _ (.tail _ (.tail _ (.tail _ (.tail _ h)))))))))))), hmt1, ghO1, hR.size, q_hO1_bx⟩
  ·skip
   refine At.store1 rfl rfl hbx sz26 (by simp) (hO1).one (fun w5 S2 => ?_)
   replace hb0 := S2.other hb0 n_b0_bx
   replace hbp := S2.other hbp n_bp_bx
   replace hO1 := hO1.set S2 q_hO1_bx
   replace hX := Xs.set hX S2 (by simp)
   replace hx1 := Xs.set hx1 S2 (by simp)
   replace hbx : w5.heap[bx]? = some (.cells #[.int .i64 k, .int .i64 a, .string nm, .string pm, .int .i64 n, va1, zN, zI, zS, zI, zN, zN, zI, zN, zI, zI, zS, zI, zN, zN, zI] 35) := S2.new
   replace hR := hR.setF S2 (.inl (.inr (.inl rfl)))
   replace hB := Fr.below hR hB0 hB0.size hSge
   refine .ops0 ?_
   refine At.wpcN (.cons rfl rfl rfl rfl (fun Lx => ?_) .nil) ?_
   ·skip
    refine .indexAddr (i := es.length) rfl rfl (Own.slOk hO1) (lt_of_some hu1) el26 sz35 rfl (.ops0 ?_)
    exact fun a ha => ⟨ha, rfl⟩
   refine At.wpcE [8] (by kernel_rfl) (by kernel_rfl) (.cons [] rfl (by kernel_rfl) ?_ .nil)
   refine At.storeRow (f := Tm.cs) (i := es.length) (off := 0) tm1 rfl rfl hO1 hu1 (fun u hu => (((all_app (Q := fun u => TmOk w5 u) (Xs.ok hX) (mem1 (Q := fun u => TmOk w5 u) (((zeroTm_ok _)).keep (Below.refl _ _))))) u hu).size) (by omega) (sz35.trans (congrArg some ((Xs.one hx1)).size.symm)) (splice_all (((((all_app (Q := fun u => TmOk w5 u) (Xs.ok hX) (mem1 (Q := fun u => TmOk w5 u) (((zeroTm_ok _)).keep (Below.refl _ _))))) u1 (List.mem_of_getElem? hu1))).size.trans ((Xs.one hx1)).size.symm)).symm (by show 0 + tm1.cs.size ≤ 21; rw [((Xs.one hx1)).size]; decide) ((Xs.one hx1)).one (fun w6 hO3 hA3 => ?_)
   replace hb0 := hA3.old hb0 (hO1.neT hb0 rfl)
   replace hbp := hA3.old hbp (hO1.neT hbp rfl)
   replace hbx := hA3.old hbx q_hO1_bx
   replace hX := Xs.app hX hA3 (.inr (by simp))
   replace hx1 := Xs.app hx1 hA3 (.inr (by simp))
   replace hR := hR.appF hA3 (fun g hg => (ghO1 g hg).imp (fun h => .inr (.inr h.symm)) id)
   replace hB := Fr.below hR hB0 hB0.size hSge
   refine .ops0 (.wpcN .nil (.wpcZ (.doneN (ResV.nil) ?_)))
   exact RetP.ok (by simp only [SB, hq1] <;> rfl) hR hts1 hb0 ⟨rfl, hbp, _, _, hbx, (by have q := hO3; rw [set_snoc] at q; exact q), Xs.append (Xs.weaken hX (by intro o ho; simp only [List.mem_cons] at ho ⊢; rcases ho with h | h | h | h <;> simp [h])) (Xs.weaken (M' := (Value.ownBlock va1 :: some b0 :: some bx :: M)) hx1 (SubM.cons (.head _) (SubM.cons (.tail _ (.tail _ (.tail _ (.head _)))) (SubM.cons (.tail _ (.tail _ (.tail _ (.tail _ (.tail _ (.head _)))))) (fun o h => (.tail _ (.tail _ (.tail _ (.tail _ (.tail _ (.tail _ (.tail _ h)))))))))))), hmt1, ghO1, hR.size, q_hO1_bx⟩
 ·skip
  refine At.buildSlice (xs := [.const (.agg #[zI, zI, zS, zS, zI, zN, zN, zI, zS, zI, zN, zN, zI, zN, zI, zI, zS, zI, zN, zN, zI])]) rfl rfl el26 sz35 ze35 (by intro v hv; simp only [List.mem_cons, List.not_mem_nil, or_false] at hv; rcases hv with rfl <;> first | rfl | simp [Value.cells, ((zeroTm_ok _)).size]) rfl (by decide) rfl (fun b2 w7 F2 => ?_)
  have q_hO_b2 : some b2 ≠ Value.ownBlock vo := Own.neFresh hO F2
  have n_b0_b2 : b0 ≠ b2 := Nat.ne_of_lt (F2.lt hb0)
  have n_bp_b2 : bp ≠ b2 := Nat.ne_of_lt (F2.lt hbp)
  have n_bx_b2 : bx ≠ b2 := Nat.ne_of_lt (F2.lt hbx)
  have gb2 := Nat.le_trans hR.size (Nat.le_of_eq F2.eq.symm)
  replace hb0 := F2.old hb0
  replace hbp := F2.old hbp
  replace hbx := F2.old hbx
  replace hO := hO.fresh F2
  replace hX := Xs.fresh hX F2
  have hb2 : w7.heap[b2]? = some (.cells (([zeroTm].map Tm.cs).flatMap (·.toList)).toArray 35) := F2.new
  replace hR := hR.freshF F2
  replace hB := Fr.below hR hB0 hB0.size hSge
  refine .ops0 ?_
  refine At.wpcN (.cons rfl rfl rfl rfl (fun Lx => ?_) (.cons rfl rfl rfl rfl (fun Lx => ?_) (.cons rfl rfl rfl rfl (fun Lx => ?_) (.cons rfl rfl rfl rfl (fun Lx => ?_) .nil)))) ?_
  ·skip
   refine .fieldAddr rfl fo35_5 rfl (.ops0 ?_)
   exact fun a ha => ⟨ha, rfl⟩
  ·skip
   refine .load rfl (Ld.ownCell ag26 hbx rfl) rfl (.ops0 ?_)
   exact fun a ha => ⟨ha, rfl⟩
  ·skip
   refine .load rfl (Ld.ownCell ag77 hbp rfl) rfl (.ops0 ?_)
   exact fun a ha => ⟨ha, rfl⟩
  ·skip
   refine .lenSl rfl (Own.slOk hO) el26 rfl (.ops0 ?_)
   exact fun a ha => ⟨ha, rfl⟩
  refine At.wpcE [3] (by kernel_rfl) (by kernel_rfl) (.cons [0, 1, 4] rfl (by kernel_rfl) ?_ .nil)
  have hml2 : MLt w7.heap.size (some b0 :: some bp :: some bx :: some b2 :: Value.ownBlock vo :: M) := (MLt.blk hb0 (MLt.blk hbp (MLt.blk hbx (MLt.blk hb2 (MLt.own hO ((MLt.mono hMl hR.size)))))))
  refine At.callP en46 rfl rfl (hex wB b0 ts v _ hB (fun k hk => hSge k (.inl hk)) hts hb0 (by have := hnn; omega)) (fun e wp2 hR' => ?_)
  rcases hR'.cases.symm with ⟨ba, bc, hq2, rfl, hF2, hbb⟩ | ⟨x2, us2, val2, vr2, hq2, rfl, hF2, hts2, hbo2, ho2⟩
  ·exact .inr ⟨_, rfl, (Pk.norm (Pk.body (RetP.bad (by simp only [SB, hq2] <;> rfl) (Fr.then hR hF2 (fun k hk => .inl (.inl hk))) hbb)))⟩
  refine .inl ⟨_, rfl, ?_⟩
  replace hbp := Fr.oldB hF2 hbp (n_b0_bp.symm)
  replace hbx := Fr.oldB hF2 hbx (n_b0_bx.symm)
  replace hb2 := Fr.oldB hF2 hb2 (n_b0_b2.symm)
  replace hO := OwnR.frB hO hF2 hb0 rfl
  replace hX := Xs.frS hX hF2 (by rintro k rfl; simp)
  replace hb0 := hbo2
  have hsz2 := hR.size
  replace hR := Fr.then hR hF2 (fun k hk => .inl (.inl hk))
  replace hB := Fr.below hR hB0 hB0.size hSge
  obtain ⟨tm2, rfl, htm2, hmt2⟩ := ho2
  have hx2 := Xs.of_new (B := 0) (M := (some b0 :: some bp :: some bx :: some b2 :: Value.ownBlock vo :: M)) (K := kTm) htm2 (fun b hb => .inr (hmt2.blk b hb)) (fun _ _ => Nat.zero_le _) hml2
  replace hmt2 := hmt2.mono hsz2
  refine .ops0 ?_
  refine At.wpcN (.cons rfl rfl rfl rfl (fun Lx => ?_) (.cons rfl rfl rfl rfl (fun Lx => ?_) (.cons rfl rfl rfl rfl (fun Lx => ?_) .nil))) ?_
  ·skip
   refine .fieldAddr rfl fo35_5 rfl (.ops0 ?_)
   exact fun a ha => ⟨ha, rfl⟩
  ·skip
   refine .load rfl (Ld.ownCell ag26 hbx rfl) rfl (.ops0 ?_)
   exact fun a ha => ⟨ha, rfl⟩
  ·skip
   refine .lenSl rfl (Own.slOk hO) el26 rfl (.ops0 ?_)
   exact fun a ha => ⟨ha, rfl⟩
  refine At.wpcE [6] (by kernel_rfl) (by kernel_rfl) (.cons [] rfl (by kernel_rfl) ?_ .nil)
  refine At.appendR (f := Tm.cs) rfl rfl el26 el26 sz35 by35 ze35 rfl hO (rows_tm (m := 1) hb2 (mem1 (Q := fun u => TmOk wp2 u) (((zeroTm_ok _)).keep (Below.refl _ _))) rfl (by decide)) (by decide) (fun u hu => (((mem1 (Q := fun u => TmOk wp2 u) (((zeroTm_ok _)).keep (Below.refl _ _)))) u hu).one) (by first | omega | (simp; omega)) (by first | omega | (simp; omega)) rfl (fun va2 w8 hO4 hA4 => ?_)
  replace hO4 : OwnR 35 21 Tm.cs w8 va2 (es ++ [zeroTm]) := hO4
  replace hb0 := hA4.old hb0 (hO.neT hb0 rfl)
  replace hbp := hA4.old hbp (hO.neT hbp rfl)
  have q_hO4_bx : some bx ≠ Value.ownBlock va2 := Moved.ne hA4.blk (Array.getElem?_eq_some_iff.1 hbx).1 hnx
  replace hbx := hA4.old hbx hnx
  clear hb2
  replace hX := Xs.app hX hA4 (.inr (by simp))
  replace hx2 := Xs.app hx2 hA4 (.inr (by simp))
  have ghO4 := AppR.movedTo hA4 hR.size geO
  replace hR := hR.appF hA4 (fun g hg => (geO g hg).imp (fun h => .inr (.inr h.symm)) id)
  replace hB := Fr.below hR hB0 hB0.size hSge
  refine .ops0 (.wpcN .nil ?_)
  obtain ⟨u2, hu2⟩ := some_of_lt (l := (es ++ [zeroTm])) (i := es.length) (by first | omega | (simp; done) | (simp; omega))
  refine At.wpcS (i := 7) (d := 9) (.pointer (some ⟨vBlock va2, vOff va2 + es.length * 21, none⟩)) (by kernel_rfl) rfl rfl rfl (fun Lx => ?_) ?_
  ·skip
   refine .indexAddr (i := es.length) rfl rfl (Own.slOk hO4) (lt_of_some hu2) el26 sz35 rfl (.ops0 ?_)
   exact fun a ha => ⟨ha, rfl⟩
  refine At.wpcS (i := 9) (d := 10) (.pointer (some ⟨bx, 0 + 5, none⟩)) (by kernel_rfl) rfl rfl rfl (fun Lx => ?_) ?_
  ·skip
   refine .fieldAddr rfl fo35_5 rfl (.ops0 ?_)
   exact fun a ha => ⟨ha, rfl⟩
  refine At.wpcE [8, 10] (by kernel_rfl) (by kernel_rfl) (.cons [9] rfl (by kernel_rfl) ?_ (.cons [7] rfl (by kernel_rfl) ?_ .nil))
  ·skip
   refine At.storeRow (f := Tm.cs) (i := es.length) (off := 0) tm2 rfl rfl hO4 hu2 (fun u hu => (((all_app (Q := fun u => TmOk w8 u) (Xs.ok hX) (mem1 (Q := fun u => TmOk w8 u) (((zeroTm_ok _)).keep (Below.refl _ _))))) u hu).size) (by omega) (sz35.trans (congrArg some ((Xs.one hx2)).size.symm)) (splice_all (((((all_app (Q := fun u => TmOk w8 u) (Xs.ok hX) (mem1 (Q := fun u => TmOk w8 u) (((zeroTm_ok _)).keep (Below.refl _ _))))) u2 (List.mem_of_getElem? hu2))).size.trans ((Xs.one hx2)).size.symm)).symm (by show 0 + tm2.cs.size ≤ 21; rw [((Xs.one hx2)).size]; decide) ((Xs.one hx2)).one (fun w9 hO5 hA5 => ?_)
   replace hb0 := hA5.old hb0 (hO4.neT hb0 rfl)
   replace hbp := hA5.old hbp (hO4.neT hbp rfl)
   replace hbx := hA5.old hbx q_hO4_bx
   replace hX := Xs.app hX hA5 (.inr (by simp))
   replace hx2 := Xs.app hx2 hA5 (.inr (by simp))
   replace hR := hR.appF hA5 (fun g hg => (ghO4 g hg).imp (fun h => .inr (.inr h.symm)) id)
   replace hB := Fr.below hR hB0 hB0.size hSge
   refine .ops0 ?_
   refine At.wpcN (.cons rfl rfl rfl rfl (fun Lx => ?_) .nil) ?_
   ·skip
    refine .fieldAddr rfl fo35_5 rfl (.ops0 ?_)
    exact fun a ha => ⟨ha, rfl⟩
   refine At.wpcE [10] (by kernel_rfl) (by kernel_rfl) (.cons [] rfl (by kernel_rfl) ?_ .nil)
   refine At.store1 rfl rfl hbx sz26 (by simp) (hO5).one (fun w10 S3 => ?_)
   replace hb0 := S3.other hb0 n_b0_bx
   replace hbp := S3.other hbp n_bp_bx
   replace hO5 := hO5.set S3 q_hO4_bx
   replace hX := Xs.set hX S3 (by simp)
   replace hx2 := Xs.set hx2 S3 (by simp)
   replace hbx : w10.heap[bx]? = some (.cells #[.int .i64 k, .int .i64 a, .string nm, .string pm, .int .i64 n, va2, zN, zI, zS, zI, zN, zN, zI, zN, zI, zI, zS, zI, zN, zN, zI] 35) := S3.new
   replace hR := hR.setF S3 (.inl (.inr (.inl rfl)))
   replace hB := Fr.below hR hB0 hB0.size hSge
   refine .ops0 (.wpcN .nil (.wpcZ (.doneN (ResV.nil) ?_)))
   exact RetP.ok (by simp only [SB, hq2] <;> rfl) hR hts2 hb0 ⟨rfl, hbp, _, _, hbx, (by have q := hO5; rw [set_snoc] at q; exact q), Xs.append (Xs.weaken hX (by intro o ho; simp only [List.mem_cons] at ho ⊢; rcases ho with h | h | h | h <;> simp [h])) (Xs.weaken (M' := (Value.ownBlock va2 :: some b0 :: some bx :: M)) hx2 (SubM.cons (.head _) (SubM.cons (.tail _ (.tail _ (.head _))) (SubM.cons (.tail _ (.tail _ (.tail _ (.tail _ (.head _))))) (fun o h => (.tail _ (.tail _ (.tail _ (.tail _ (.tail _ (.tail _ (.tail _ h)))))))))))), hmt2, ghO4, hR.size, q_hO4_bx⟩
  ·skip
   refine At.store1 rfl rfl hbx sz26 (by simp) (hO4).one (fun w11 S4 => ?_)
   replace hb0 := S4.other hb0 n_b0_bx
   replace hbp := S4.other hbp n_bp_bx
   replace hO4 := hO4.set S4 q_hO4_bx
   replace hX := Xs.set hX S4 (by simp)
   replace hx2 := Xs.set hx2 S4 (by simp)
   replace hbx : w11.heap[bx]? = some (.cells #[.int .i64 k, .int .i64 a, .string nm, .string pm, .int .i64 n, va2, zN, zI, zS, zI, zN, zN, zI, zN, zI, zI, zS, zI, zN, zN, zI] 35) := S4.new
   replace hR := hR.setF S4 (.inl (.inr (.inl rfl)))
   replace hB := Fr.below hR hB0 hB0.size hSge
   refine .ops0 ?_
   refine At.wpcN (.cons rfl rfl rfl rfl (fun Lx => ?_) .nil) ?_
   ·skip
    refine .indexAddr (i := es.length) rfl rfl (Own.slOk hO4) (lt_of_some hu2) el26 sz35 rfl (.ops0 ?_)
    exact fun a ha => ⟨ha, rfl⟩
   refine At.wpcE [8] (by kernel_rfl) (by kernel_rfl) (.cons [] rfl (by kernel_rfl) ?_ .nil)
   refine At.storeRow (f := Tm.cs) (i := es.length) (off := 0) tm2 rfl rfl hO4 hu2 (fun u hu => (((all_app (Q := fun u => TmOk w11 u) (Xs.ok hX) (mem1 (Q := fun u => TmOk w11 u) (((zeroTm_ok _)).keep (Below.refl _ _))))) u hu).size) (by omega) (sz35.trans (congrArg some ((Xs.one hx2)).size.symm)) (splice_all (((((all_app (Q := fun u => TmOk w11 u) (Xs.ok hX) (mem1 (Q := fun u => TmOk w11 u) (((zeroTm_ok _)).keep (Below.refl _ _))))) u2 (List.mem_of_getElem? hu2))).size.trans ((Xs.one hx2)).size.symm)).symm (by show 0 + tm2.cs.size ≤ 21; rw [((Xs.one hx2)).size]; decide) ((Xs.one hx2)).one (fun w12 hO6 hA6 => ?_)
   replace hb0 := hA6.old hb0 (hO4.neT hb0 rfl)
   replace hbp := hA6.old hbp (hO4.neT hbp rfl)
   replace hbx := hA6.old hbx q_hO4_bx
   replace hX := Xs.app hX hA6 (.inr (by simp))
   replace hx2 := Xs.app hx2 hA6 (.inr (by simp))
   replace hR := hR.appF hA6 (fun g hg => (ghO4 g hg).imp (fun h => .inr (.inr h.symm)) id)
   replace hB := Fr.below hR hB0 hB0.size hSge
   refine .ops0 (.wpcN .nil (.wpcZ (.doneN (ResV.nil) ?_)))
   exact RetP.ok (by simp only [SB, hq2] <;> rfl) hR hts2 hb0 ⟨rfl, hbp, _, _, hbx, (by have q := hO6; rw [set_snoc] at q; exact q), Xs.append (Xs.weaken hX (by intro o ho; simp only [List.mem_cons] at ho ⊢; rcases ho with h | h | h | h <;> simp [h])) (Xs.weaken (M' := (Value.ownBlock va2 :: some b0 :: some bx :: M)) hx2 (SubM.cons (.head _) (SubM.cons (.tail _ (.tail _ (.head _))) (SubM.cons (.tail _ (.tail _ (.tail _ (.tail _ (.head _))))) (fun o h => (.tail _ (.tail _ (.tail _ (.tail _ (.tail _ (.tail _ (.tail _ h)))))))))))), hmt2, ghO4, hR.size, q_hO4_bx⟩
theorem atom_any {wB : World} {b0 : Nat} {en dp : Int} (ts : List Tk) (v : Value) (ex : List Tk → PR ST) (w : World) (hB0 : Below wB.heap.size wB w) (hSge : ∀ k, k = b0 → wB.heap.size ≤ k) (hts : RowsAt wB v 4 (ts.map Tk.cs)) (hb0 : w.heap[b0]? = some (.cells #[v, .int .i64 en, .int .i64 dp] 81)) (hbig : ts.length ≤ 100000000) (hxs : ∀ ts, (ex ts).Sh ts.length) (hex : ExC en dp ex) :
  Calls Try.prog 106 ([.pointer (some ⟨b0, 0, none⟩)] : List Value).toArray w fun e w' => RetP (fun k => k = b0) wB b0 en dp (okT w) (atomP en ex ts) w e w' := by
 have htl := hts.lenL
 have hR := Fr.refl (fun k => k = b0) w
 have hB := hB0
 refine At.enter (N := 113) Try.func106 rfl rfl (by simp) [(0, .pointer (some ⟨b0, 0, none⟩))] (by simp) ?_
 refine .seq (.region ?_)
 refine At.box rfl rfl (fun b1 w1 F1 => ?_)
 have n_b0_b1 : b0 ≠ b1 := Nat.ne_of_lt (F1.lt hb0)
 have gb1 := Nat.le_trans hR.size (Nat.le_of_eq F1.eq.symm)
 replace hb0 := F1.old hb0
 have hb1 : w1.heap[b1]? = some (.cells #[.pointer (some ⟨b0, 0, none⟩)] 77) := F1.new
 replace hR := hR.freshF F1
 replace hB := Fr.below hR hB0 hB0.size hSge
 refine At.alloc ze35 rfl (fun b2 w2 F2 => ?_)
 have n_b0_b2 : b0 ≠ b2 := Nat.ne_of_lt (F2.lt hb0)
 have n_b1_b2 : b1 ≠ b2 := Nat.ne_of_lt (F2.lt hb1)
 have gb2 := Nat.le_trans hR.size (Nat.le_of_eq F2.eq.symm)
 replace hb0 := F2.old hb0
 replace hb1 := F2.old hb1
 have hb2 : w2.heap[b2]? = some (.cells #[zI, zI, zS, zS, zI, zN, zN, zI, zS, zI, zN, zN, zI, zN, zI, zI, zS, zI, zN, zN, zI] 35) := F2.new
 replace hR := hR.freshF F2
 replace hB := Fr.below hR hB0 hB0.size hSge
 refine .ops0 (.thenN (.seq (.region (.load rfl (Ld.ownCell ag77 hb1 rfl) rfl (.nilCheck rfl rfl (.fieldAddr rfl fo81_0 rfl ?_))))))
 refine At.call en63 rfl rfl (next_any ts v _ ((hts).keep hB) hb0) (fun e w3 hR' => ?_)
 obtain ⟨rfl, hbl1⟩ := hR'
 refine ⟨_, rfl, ?_⟩
 replace hb0 := Below.old hbl1 hb0
 replace hb1 := Below.old hbl1 hb1
 replace hb2 := Below.old hbl1 hb2
 replace hR := hR.callF hbl1
 replace hB := Fr.below hR hB0 hB0.size hSge
 refine At.alloc ze47 rfl (fun b3 w4 F3 => ?_)
 have n_b0_b3 : b0 ≠ b3 := Nat.ne_of_lt (F3.lt hb0)
 have n_b1_b3 : b1 ≠ b3 := Nat.ne_of_lt (F3.lt hb1)
 have n_b2_b3 : b2 ≠ b3 := Nat.ne_of_lt (F3.lt hb2)
 have gb3 := Nat.le_trans hR.size (Nat.le_of_eq F3.eq.symm)
 replace hb0 := F3.old hb0
 replace hb1 := F3.old hb1
 replace hb2 := F3.old hb2
 have hb3 : w4.heap[b3]? = some (.cells #[zI, zS, zI, zI] 47) := F3.new
 replace hR := hR.freshF F3
 replace hB := Fr.below hR hB0 hB0.size hSge
 refine At.storeAll rfl rfl hb3 (sz47.trans (congrArg some ((tk_ok (nx en ts))).size.symm)) ((tk_ok (nx en ts))).size.symm ((tk_ok (nx en ts))).one (fun w5 S1 => ?_)
 replace hb0 := S1.other hb0 n_b0_b3
 replace hb1 := S1.other hb1 n_b1_b3
 replace hb2 := S1.other hb2 n_b2_b3
 replace hb3 : w5.heap[b3]? = some (.cells (nx en ts).cs 47) := S1.new
 replace hR := hR.setF S1 (.inr gb3)
 replace hB := Fr.below hR hB0 hB0.size hSge
 refine .ops0 (.thenN (.seq (.region (.fieldAddr rfl fo47_3 rfl (.load rfl (Ld.ownCell ag3 hb3 ((tk_ok (nx en ts))).c3) rfl (.build (C := #[zI, .int .i64 ((nx en ts).a), zS, zS, zI, zN, zN, zI, zS, zI, zN, zN, zI, zN, zI, zI, zS, zI, zN, zN, zI]) sd35 ze35 rfl (Bld.cons fo35_1 rfl (by first | decide | exact Nat.le_of_ble_eq_true rfl) (Bld.nil _)) rfl ?_))))))
 refine At.alloc ze35 rfl (fun b4 w6 F4 => ?_)
 have n_b0_b4 : b0 ≠ b4 := Nat.ne_of_lt (F4.lt hb0)
 have n_b1_b4 : b1 ≠ b4 := Nat.ne_of_lt (F4.lt hb1)
 have n_b2_b4 : b2 ≠ b4 := Nat.ne_of_lt (F4.lt hb2)
 have n_b3_b4 : b3 ≠ b4 := Nat.ne_of_lt (F4.lt hb3)
 have gb4 := Nat.le_trans hR.size (Nat.le_of_eq F4.eq.symm)
 replace hb0 := F4.old hb0
 replace hb1 := F4.old hb1
 replace hb2 := F4.old hb2
 replace hb3 := F4.old hb3
 have hb4 : w6.heap[b4]? = some (.cells #[zI, zI, zS, zS, zI, zN, zN, zI, zS, zI, zN, zN, zI, zN, zI, zI, zS, zI, zN, zN, zI] 35) := F4.new
 replace hR := hR.freshF F4
 replace hB := Fr.below hR hB0 hB0.size hSge
 refine At.storeAll rfl rfl hb4 sz35 rfl (by first | (simp [Value.oneCell', ((SlOk.nil)).one]; done) | (simp only [List.all_toArray, List.all_cons, List.all_nil, ((SlOk.nil)).one, Bool.and_true, Bool.true_and]; rfl)) (fun w7 S2 => ?_)
 replace hb0 := S2.other hb0 n_b0_b4
 replace hb1 := S2.other hb1 n_b1_b4
 replace hb2 := S2.other hb2 n_b2_b4
 replace hb3 := S2.other hb3 n_b3_b4
 replace hb4 : w7.heap[b4]? = some (.cells #[zI, .int .i64 ((nx en ts).a), zS, zS, zI, zN, zN, zI, zS, zI, zN, zN, zI, zN, zI, zI, zS, zI, zN, zN, zI] 35) := S2.new
 replace hR := hR.setF S2 (.inr gb4)
 replace hB := Fr.below hR hB0 hB0.size hSge
 refine .ops0 (.thenN (.seq (.block (.seq (.region (.load rfl (Ld.ownCell ag77 hb1 rfl) rfl (.nilCheck rfl rfl (.fieldAddr rfl fo81_0 rfl ?_))))))))
 refine At.buildSlice (xs := [.const (.int .i64 1)]) rfl rfl el48 sz3 ze3 (by intro v hv; simp only [List.mem_cons, List.not_mem_nil, or_false] at hv; rcases hv with rfl <;> first | rfl | simp [Value.cells]) rfl (by decide) rfl (fun b5 w8 F5 => ?_)
 have n_b0_b5 : b0 ≠ b5 := Nat.ne_of_lt (F5.lt hb0)
 have n_b1_b5 : b1 ≠ b5 := Nat.ne_of_lt (F5.lt hb1)
 have n_b2_b5 : b2 ≠ b5 := Nat.ne_of_lt (F5.lt hb2)
 have n_b3_b5 : b3 ≠ b5 := Nat.ne_of_lt (F5.lt hb3)
 have n_b4_b5 : b4 ≠ b5 := Nat.ne_of_lt (F5.lt hb4)
 have gb5 := Nat.le_trans hR.size (Nat.le_of_eq F5.eq.symm)
 replace hb0 := F5.old hb0
 replace hb1 := F5.old hb1
 replace hb2 := F5.old hb2
 replace hb3 := F5.old hb3
 replace hb4 := F5.old hb4
 have hb5 : w8.heap[b5]? = some (.cells #[.int .i64 1] 3) := F5.new
 replace hR := hR.freshF F5
 replace hB := Fr.below hR hB0 hB0.size hSge
 refine At.call en71 rfl rfl (kind_any ts v (.slice (some ⟨b5, 0, none⟩) 1 1) ([1]) _ ((hts).keep hB) hb0 ((IntsAt.own (l := [1]) hb5 rfl (by decide) : IntsAt _ (.slice (some ⟨b5, 0, none⟩) 1 1) [1]))) (fun e w9 hR' => ?_)
 obtain ⟨rfl, hbl2⟩ := hR'
 refine ⟨_, rfl, ?_⟩
 replace hb0 := Below.old hbl2 hb0
 replace hb1 := Below.old hbl2 hb1
 replace hb2 := Below.old hbl2 hb2
 replace hb3 := Below.old hbl2 hb3
 replace hb4 := Below.old hbl2 hb4
 replace hb5 := Below.old hbl2 hb5
 replace hR := hR.callF hbl2
 replace hB := Fr.below hR hB0 hB0.size hSge
 refine .assign rfl rfl (.ops0 (.thenN ?_))
 refine At.cond (b := (kdK en ts ([1]))) rfl (fun hc1 => ?_) (fun hc1 => ?_)
 ·skip
  refine .region (.load rfl (Ld.ownCell ag77 hb1 rfl) rfl (.nilCheck rfl rfl (.fieldAddr rfl fo81_0 rfl ?_)))
  refine At.call en74 rfl rfl (ptake_any ts v _ hB hSge hts hb0 (kd_len hc1 (by simp))) (fun e wp1 hR' => ?_)
  obtain ⟨vr1, rfl, hts1, hbo1, hF1⟩ := hR'
  refine ⟨_, rfl, ?_⟩
  replace hb1 := Fr.oldB hF1 hb1 (n_b0_b1.symm)
  replace hb2 := Fr.oldB hF1 hb2 (n_b0_b2.symm)
  replace hb3 := Fr.oldB hF1 hb3 (n_b0_b3.symm)
  replace hb4 := Fr.oldB hF1 hb4 (n_b0_b4.symm)
  replace hb5 := Fr.oldB hF1 hb5 (n_b0_b5.symm)
  replace hb0 := hbo1
  replace hR := Fr.then hR hF1 (fun k hk => .inl hk)
  replace hB := Fr.below hR hB0 hB0.size hSge
  refine .fieldC rfl ft47_2 ag3 (((tk_ok (nx en ts))).c2) rfl (.fieldAddr rfl fo35_0 rfl ?_)
  refine At.store1 rfl rfl hb4 sz3 (by simp) rfl (fun w10 S3 => ?_)
  replace hb0 := S3.other hb0 n_b0_b4
  replace hb1 := S3.other hb1 n_b1_b4
  replace hb2 := S3.other hb2 n_b2_b4
  replace hb3 := S3.other hb3 n_b3_b4
  replace hb5 := S3.other hb5 n_b4_b5.symm
  replace hb4 : w10.heap[b4]? = some (.cells #[.int .i64 2, .int .i64 ((nx en ts).a), zS, zS, zI, zN, zN, zI, zS, zI, zN, zN, zI, zN, zI, zI, zS, zI, zN, zN, zI] 35) := S3.new
  replace hR := hR.setF S3 (.inr gb4)
  replace hB := Fr.below hR hB0 hB0.size hSge
  refine .fieldAddr rfl fo35_4 rfl ?_
  refine At.store1 rfl rfl hb4 sz3 (by simp) rfl (fun w11 S4 => ?_)
  replace hb0 := S4.other hb0 n_b0_b4
  replace hb1 := S4.other hb1 n_b1_b4
  replace hb2 := S4.other hb2 n_b2_b4
  replace hb3 := S4.other hb3 n_b3_b4
  replace hb5 := S4.other hb5 n_b4_b5.symm
  replace hb4 : w11.heap[b4]? = some (.cells #[.int .i64 2, .int .i64 ((nx en ts).a), zS, zS, .int .i64 ((nx en ts).n), zN, zN, zI, zS, zI, zN, zN, zI, zN, zI, zI, zS, zI, zN, zN, zI] 35) := S4.new
  replace hR := hR.setF S4 (.inr gb4)
  replace hB := Fr.below hR hB0 hB0.size hSge
  refine .ops0 (.inN (.thenN (.seq (.region (.load rfl (Ld.own (C := #[.int .i64 2, .int .i64 ((nx en ts).a), zS, zS, .int .i64 ((nx en ts).n), zN, zN, zI, zS, zI, zN, zN, zI, zN, zI, zI, zS, zI, zN, zN, zI]) ag35 sz35 hb4) rfl ?_)))))
  refine At.storeAll rfl rfl hb2 sz35 rfl (by first | (simp [Value.oneCell', ((SlOk.nil)).one]; done) | (simp only [List.all_toArray, List.all_cons, List.all_nil, ((SlOk.nil)).one, Bool.and_true, Bool.true_and]; rfl)) (fun w12 S5 => ?_)
  replace hb0 := S5.other hb0 n_b0_b2
  replace hb1 := S5.other hb1 n_b1_b2
  replace hb3 := S5.other hb3 n_b2_b3.symm
  replace hb4 := S5.other hb4 n_b2_b4.symm
  replace hb5 := S5.other hb5 n_b2_b5.symm
  replace hb2 : w12.heap[b2]? = some (.cells #[.int .i64 2, .int .i64 ((nx en ts).a), zS, zS, .int .i64 ((nx en ts).n), zN, zN, zI, zS, zI, zN, zN, zI, zN, zI, zI, zS, zI, zN, zN, zI] 35) := S5.new
  replace hR := hR.setF S5 (.inr gb2)
  replace hB := Fr.below hR hB0 hB0.size hSge
  refine .ops0 (.thenN (.retc (.doneR (ResV.cell rfl (Ld.own (C := #[.int .i64 2, .int .i64 ((nx en ts).a), zS, zS, .int .i64 ((nx en ts).n), zN, zN, zI, zS, zI, zN, zN, zI, zN, zI, zI, zS, zI, zN, zN, zI]) ag35 sz35 hb2) ResV.nil) ?_)))
  exact RetP.ok (x := (ST.mk 2 ((nx en ts).a) (⟨#[]⟩ : ByteArray) (⟨#[]⟩ : ByteArray) ((nx en ts).n) [] [])) (by simp only [atomP, listOne_eq, failP, SB, hc1] <;> rfl) hR hts1 hb0 ⟨(tmA 2 ((nx en ts).a) (⟨#[]⟩ : ByteArray) (⟨#[]⟩ : ByteArray) ((nx en ts).n) zN [] zN []), rfl, (tmA_ok (RowsAt.nil _ 21) (Xs.ok (Xs.nil kTm [] _)) (RowsAt.nil _ 23) (Xs.ok (Xs.nil kAm [] _))), (MT.made (k := 2) (a := (nx en ts).a) (nm := (⟨#[]⟩ : ByteArray)) (pm := (⟨#[]⟩ : ByteArray)) (n := (nx en ts).n) (MTL.nil w) (MAL.nil w) (fun h => absurd rfl h) (fun h => absurd rfl h))⟩
 ·skip
  refine .seq (.region (.load rfl (Ld.ownCell ag77 hb1 rfl) rfl (.nilCheck rfl rfl (.fieldAddr rfl fo81_0 rfl ?_))))
  refine At.buildSlice (xs := [.const (.string (⟨#[116, 114, 117, 101]⟩ : ByteArray)), .const (.string (⟨#[102, 97, 108, 115, 101]⟩ : ByteArray))]) rfl rfl el29 sz9 ze9 (by intro v hv; simp only [List.mem_cons, List.not_mem_nil, or_false] at hv; rcases hv with rfl | rfl <;> first | rfl | simp [Value.cells]) rfl (by decide) rfl (fun b6 w13 F6 => ?_)
  have n_b0_b6 : b0 ≠ b6 := Nat.ne_of_lt (F6.lt hb0)
  have n_b1_b6 : b1 ≠ b6 := Nat.ne_of_lt (F6.lt hb1)
  have n_b2_b6 : b2 ≠ b6 := Nat.ne_of_lt (F6.lt hb2)
  have n_b3_b6 : b3 ≠ b6 := Nat.ne_of_lt (F6.lt hb3)
  have n_b4_b6 : b4 ≠ b6 := Nat.ne_of_lt (F6.lt hb4)
  have n_b5_b6 : b5 ≠ b6 := Nat.ne_of_lt (F6.lt hb5)
  have gb6 := Nat.le_trans hR.size (Nat.le_of_eq F6.eq.symm)
  replace hb0 := F6.old hb0
  replace hb1 := F6.old hb1
  replace hb2 := F6.old hb2
  replace hb3 := F6.old hb3
  replace hb4 := F6.old hb4
  replace hb5 := F6.old hb5
  have hb6 : w13.heap[b6]? = some (.cells #[.string (⟨#[116, 114, 117, 101]⟩ : ByteArray), .string (⟨#[102, 97, 108, 115, 101]⟩ : ByteArray)] 9) := F6.new
  replace hR := hR.freshF F6
  replace hB := Fr.below hR hB0 hB0.size hSge
  refine At.call en43 rfl rfl (is_any ts v (.slice (some ⟨b6, 0, none⟩) 2 2) ([(⟨#[116, 114, 117, 101]⟩ : ByteArray), (⟨#[102, 97, 108, 115, 101]⟩ : ByteArray)]) _ ((hts).keep hB) hb0 ((StrsAt.own (ss := [(⟨#[116, 114, 117, 101]⟩ : ByteArray), (⟨#[102, 97, 108, 115, 101]⟩ : ByteArray)]) hb6 rfl (by decide) : StrsAt _ (.slice (some ⟨b6, 0, none⟩) 2 2) [(⟨#[116, 114, 117, 101]⟩ : ByteArray), (⟨#[102, 97, 108, 115, 101]⟩ : ByteArray)]))) (fun e w14 hR' => ?_)
  obtain ⟨rfl, hbl3⟩ := hR'
  refine ⟨_, rfl, ?_⟩
  replace hb0 := Below.old hbl3 hb0
  replace hb1 := Below.old hbl3 hb1
  replace hb2 := Below.old hbl3 hb2
  replace hb3 := Below.old hbl3 hb3
  replace hb4 := Below.old hbl3 hb4
  replace hb5 := Below.old hbl3 hb5
  replace hb6 := Below.old hbl3 hb6
  replace hR := hR.callF hbl3
  replace hB := Fr.below hR hB0 hB0.size hSge
  refine .assign rfl rfl (.ops0 (.thenN ?_))
  refine At.cond (b := (isK en ts ([(⟨#[116, 114, 117, 101]⟩ : ByteArray), (⟨#[102, 97, 108, 115, 101]⟩ : ByteArray)]))) rfl (fun hc2 => ?_) (fun hc2 => ?_)
  ·skip
   refine .seq (.region (.fieldAddr rfl fo35_0 rfl ?_))
   refine At.store1 rfl rfl hb4 sz3 (by simp) rfl (fun w15 S6 => ?_)
   replace hb0 := S6.other hb0 n_b0_b4
   replace hb1 := S6.other hb1 n_b1_b4
   replace hb2 := S6.other hb2 n_b2_b4
   replace hb3 := S6.other hb3 n_b3_b4
   replace hb5 := S6.other hb5 n_b4_b5.symm
   replace hb6 := S6.other hb6 n_b4_b6.symm
   replace hb4 : w15.heap[b4]? = some (.cells #[.int .i64 3, .int .i64 ((nx en ts).a), zS, zS, zI, zN, zN, zI, zS, zI, zN, zN, zI, zN, zI, zI, zS, zI, zN, zN, zI] 35) := S6.new
   replace hR := hR.setF S6 (.inr gb4)
   replace hB := Fr.below hR hB0 hB0.size hSge
   refine .ops0 (.thenN (.seq (.region (.load rfl (Ld.ownCell ag77 hb1 rfl) rfl (.nilCheck rfl rfl (.fieldAddr rfl fo81_0 rfl ?_))))))
   refine At.call en74 rfl rfl (ptake_any ts v _ hB hSge hts hb0 (is_len hc2)) (fun e wp2 hR' => ?_)
   obtain ⟨vr2, rfl, hts2, hbo2, hF2⟩ := hR'
   refine ⟨_, rfl, ?_⟩
   replace hb1 := Fr.oldB hF2 hb1 (n_b0_b1.symm)
   replace hb2 := Fr.oldB hF2 hb2 (n_b0_b2.symm)
   replace hb3 := Fr.oldB hF2 hb3 (n_b0_b3.symm)
   replace hb4 := Fr.oldB hF2 hb4 (n_b0_b4.symm)
   replace hb5 := Fr.oldB hF2 hb5 (n_b0_b5.symm)
   replace hb6 := Fr.oldB hF2 hb6 (n_b0_b6.symm)
   replace hb0 := hbo2
   replace hR := Fr.then hR hF2 (fun k hk => .inl hk)
   replace hB := Fr.below hR hB0 hB0.size hSge
   refine .fieldC rfl ft47_1 ag9 (((tk_ok (nx en ts))).c1) rfl (.eqS rfl rfl rfl (.ops0 (.thenN ?_)))
   refine At.cond (b := decide ((bs ((nx en ts).t)) = (⟨#[116, 114, 117, 101]⟩ : ByteArray))) rfl (fun hc3 => ?_) (fun hc3 => ?_)
   ·skip
    have hc3' := of_decide_eq_true hc3
    refine .region (.fieldAddr rfl fo35_4 rfl ?_)
    refine At.store1 rfl rfl hb4 sz3 (by simp) rfl (fun w16 S7 => ?_)
    replace hb0 := S7.other hb0 n_b0_b4
    replace hb1 := S7.other hb1 n_b1_b4
    replace hb2 := S7.other hb2 n_b2_b4
    replace hb3 := S7.other hb3 n_b3_b4
    replace hb5 := S7.other hb5 n_b4_b5.symm
    replace hb6 := S7.other hb6 n_b4_b6.symm
    replace hb4 : w16.heap[b4]? = some (.cells #[.int .i64 3, .int .i64 ((nx en ts).a), zS, zS, .int .i64 1, zN, zN, zI, zS, zI, zN, zN, zI, zN, zI, zI, zS, zI, zN, zN, zI] 35) := S7.new
    replace hR := hR.setF S7 (.inr gb4)
    replace hB := Fr.below hR hB0 hB0.size hSge
    refine .ops0 (.inN (.thenN (.seq (.region (.load rfl (Ld.own (C := #[.int .i64 3, .int .i64 ((nx en ts).a), zS, zS, .int .i64 1, zN, zN, zI, zS, zI, zN, zN, zI, zN, zI, zI, zS, zI, zN, zN, zI]) ag35 sz35 hb4) rfl ?_)))))
    refine At.storeAll rfl rfl hb2 sz35 rfl (by first | (simp [Value.oneCell', ((SlOk.nil)).one]; done) | (simp only [List.all_toArray, List.all_cons, List.all_nil, ((SlOk.nil)).one, Bool.and_true, Bool.true_and]; rfl)) (fun w17 S8 => ?_)
    replace hb0 := S8.other hb0 n_b0_b2
    replace hb1 := S8.other hb1 n_b1_b2
    replace hb3 := S8.other hb3 n_b2_b3.symm
    replace hb4 := S8.other hb4 n_b2_b4.symm
    replace hb5 := S8.other hb5 n_b2_b5.symm
    replace hb6 := S8.other hb6 n_b2_b6.symm
    replace hb2 : w17.heap[b2]? = some (.cells #[.int .i64 3, .int .i64 ((nx en ts).a), zS, zS, .int .i64 1, zN, zN, zI, zS, zI, zN, zN, zI, zN, zI, zI, zS, zI, zN, zN, zI] 35) := S8.new
    replace hR := hR.setF S8 (.inr gb2)
    replace hB := Fr.below hR hB0 hB0.size hSge
    refine .ops0 (.thenN (.retc (.doneR (ResV.cell rfl (Ld.own (C := #[.int .i64 3, .int .i64 ((nx en ts).a), zS, zS, .int .i64 1, zN, zN, zI, zS, zI, zN, zN, zI, zN, zI, zI, zS, zI, zN, zN, zI]) ag35 sz35 hb2) ResV.nil) ?_)))
    exact RetP.ok (x := (ST.mk 3 ((nx en ts).a) (⟨#[]⟩ : ByteArray) (⟨#[]⟩ : ByteArray) 1 [] [])) (by simp only [atomP, listOne_eq, failP, SB, hc1, hc2, hc3', decide_true, decide_false, eq_self] <;> rfl) hR hts2 hb0 ⟨(tmA 3 ((nx en ts).a) (⟨#[]⟩ : ByteArray) (⟨#[]⟩ : ByteArray) 1 zN [] zN []), rfl, (tmA_ok (RowsAt.nil _ 21) (Xs.ok (Xs.nil kTm [] _)) (RowsAt.nil _ 23) (Xs.ok (Xs.nil kAm [] _))), (MT.made (k := 3) (a := (nx en ts).a) (nm := (⟨#[]⟩ : ByteArray)) (pm := (⟨#[]⟩ : ByteArray)) (n := 1) (MTL.nil w) (MAL.nil w) (fun h => absurd rfl h) (fun h => absurd rfl h))⟩
   ·skip
    have hc3' := of_decide_eq_false hc3
    refine .skip (.inN (.thenN (.seq (.region (.load rfl (Ld.own (C := #[.int .i64 3, .int .i64 ((nx en ts).a), zS, zS, zI, zN, zN, zI, zS, zI, zN, zN, zI, zN, zI, zI, zS, zI, zN, zN, zI]) ag35 sz35 hb4) rfl ?_)))))
    refine At.storeAll rfl rfl hb2 sz35 rfl (by first | (simp [Value.oneCell', ((SlOk.nil)).one]; done) | (simp only [List.all_toArray, List.all_cons, List.all_nil, ((SlOk.nil)).one, Bool.and_true, Bool.true_and]; rfl)) (fun w18 S9 => ?_)
    replace hb0 := S9.other hb0 n_b0_b2
    replace hb1 := S9.other hb1 n_b1_b2
    replace hb3 := S9.other hb3 n_b2_b3.symm
    replace hb4 := S9.other hb4 n_b2_b4.symm
    replace hb5 := S9.other hb5 n_b2_b5.symm
    replace hb6 := S9.other hb6 n_b2_b6.symm
    replace hb2 : w18.heap[b2]? = some (.cells #[.int .i64 3, .int .i64 ((nx en ts).a), zS, zS, zI, zN, zN, zI, zS, zI, zN, zN, zI, zN, zI, zI, zS, zI, zN, zN, zI] 35) := S9.new
    replace hR := hR.setF S9 (.inr gb2)
    replace hB := Fr.below hR hB0 hB0.size hSge
    refine .ops0 (.thenN (.retc (.doneR (ResV.cell rfl (Ld.own (C := #[.int .i64 3, .int .i64 ((nx en ts).a), zS, zS, zI, zN, zN, zI, zS, zI, zN, zN, zI, zN, zI, zI, zS, zI, zN, zN, zI]) ag35 sz35 hb2) ResV.nil) ?_)))
    exact RetP.ok (x := (ST.mk 3 ((nx en ts).a) (⟨#[]⟩ : ByteArray) (⟨#[]⟩ : ByteArray) 0 [] [])) (by simp only [atomP, listOne_eq, failP, SB, hc1, hc2, hc3', decide_true, decide_false, eq_self] <;> rfl) hR hts2 hb0 ⟨(tmA 3 ((nx en ts).a) (⟨#[]⟩ : ByteArray) (⟨#[]⟩ : ByteArray) 0 zN [] zN []), rfl, (tmA_ok (RowsAt.nil _ 21) (Xs.ok (Xs.nil kTm [] _)) (RowsAt.nil _ 23) (Xs.ok (Xs.nil kAm [] _))), (MT.made (k := 3) (a := (nx en ts).a) (nm := (⟨#[]⟩ : ByteArray)) (pm := (⟨#[]⟩ : ByteArray)) (n := 0) (MTL.nil w) (MAL.nil w) (fun h => absurd rfl h) (fun h => absurd rfl h))⟩
  ·skip
   refine .seq (.region (.load rfl (Ld.ownCell ag77 hb1 rfl) rfl (.nilCheck rfl rfl (.fieldAddr rfl fo81_0 rfl ?_))))
   refine At.buildSlice (xs := [.const (.int .i64 2)]) rfl rfl el48 sz3 ze3 (by intro v hv; simp only [List.mem_cons, List.not_mem_nil, or_false] at hv; rcases hv with rfl <;> first | rfl | simp [Value.cells]) rfl (by decide) rfl (fun b7 w19 F7 => ?_)
   have n_b0_b7 : b0 ≠ b7 := Nat.ne_of_lt (F7.lt hb0)
   have n_b1_b7 : b1 ≠ b7 := Nat.ne_of_lt (F7.lt hb1)
   have n_b2_b7 : b2 ≠ b7 := Nat.ne_of_lt (F7.lt hb2)
   have n_b3_b7 : b3 ≠ b7 := Nat.ne_of_lt (F7.lt hb3)
   have n_b4_b7 : b4 ≠ b7 := Nat.ne_of_lt (F7.lt hb4)
   have n_b5_b7 : b5 ≠ b7 := Nat.ne_of_lt (F7.lt hb5)
   have n_b6_b7 : b6 ≠ b7 := Nat.ne_of_lt (F7.lt hb6)
   have gb7 := Nat.le_trans hR.size (Nat.le_of_eq F7.eq.symm)
   replace hb0 := F7.old hb0
   replace hb1 := F7.old hb1
   replace hb2 := F7.old hb2
   replace hb3 := F7.old hb3
   replace hb4 := F7.old hb4
   replace hb5 := F7.old hb5
   replace hb6 := F7.old hb6
   have hb7 : w19.heap[b7]? = some (.cells #[.int .i64 2] 3) := F7.new
   replace hR := hR.freshF F7
   replace hB := Fr.below hR hB0 hB0.size hSge
   refine At.call en71 rfl rfl (kind_any ts v (.slice (some ⟨b7, 0, none⟩) 1 1) ([2]) _ ((hts).keep hB) hb0 ((IntsAt.own (l := [2]) hb7 rfl (by decide) : IntsAt _ (.slice (some ⟨b7, 0, none⟩) 1 1) [2]))) (fun e w20 hR' => ?_)
   obtain ⟨rfl, hbl4⟩ := hR'
   refine ⟨_, rfl, ?_⟩
   replace hb0 := Below.old hbl4 hb0
   replace hb1 := Below.old hbl4 hb1
   replace hb2 := Below.old hbl4 hb2
   replace hb3 := Below.old hbl4 hb3
   replace hb4 := Below.old hbl4 hb4
   replace hb5 := Below.old hbl4 hb5
   replace hb6 := Below.old hbl4 hb6
   replace hb7 := Below.old hbl4 hb7
   replace hR := hR.callF hbl4
   replace hB := Fr.below hR hB0 hB0.size hSge
   refine .assign rfl rfl (.ops0 (.thenN ?_))
   refine At.cond (b := (kdK en ts ([2]))) rfl (fun hc4 => ?_) (fun hc4 => ?_)
   ·skip
    refine .region (.load rfl (Ld.ownCell ag77 hb1 rfl) rfl (.nilCheck rfl rfl (.fieldAddr rfl fo81_0 rfl ?_)))
    refine At.call en74 rfl rfl (ptake_any ts v _ hB hSge hts hb0 (kd_len hc4 (by simp))) (fun e wp3 hR' => ?_)
    obtain ⟨vr3, rfl, hts3, hbo3, hF3⟩ := hR'
    refine ⟨_, rfl, ?_⟩
    replace hb1 := Fr.oldB hF3 hb1 (n_b0_b1.symm)
    replace hb2 := Fr.oldB hF3 hb2 (n_b0_b2.symm)
    replace hb3 := Fr.oldB hF3 hb3 (n_b0_b3.symm)
    replace hb4 := Fr.oldB hF3 hb4 (n_b0_b4.symm)
    replace hb5 := Fr.oldB hF3 hb5 (n_b0_b5.symm)
    replace hb6 := Fr.oldB hF3 hb6 (n_b0_b6.symm)
    replace hb7 := Fr.oldB hF3 hb7 (n_b0_b7.symm)
    replace hb0 := hbo3
    replace hR := Fr.then hR hF3 (fun k hk => .inl hk)
    replace hB := Fr.below hR hB0 hB0.size hSge
    refine .fieldC rfl ft47_1 ag9 (((tk_ok (nx en ts))).c1) rfl (.fieldAddr rfl fo35_0 rfl ?_)
    refine At.store1 rfl rfl hb4 sz3 (by simp) rfl (fun w21 S10 => ?_)
    replace hb0 := S10.other hb0 n_b0_b4
    replace hb1 := S10.other hb1 n_b1_b4
    replace hb2 := S10.other hb2 n_b2_b4
    replace hb3 := S10.other hb3 n_b3_b4
    replace hb5 := S10.other hb5 n_b4_b5.symm
    replace hb6 := S10.other hb6 n_b4_b6.symm
    replace hb7 := S10.other hb7 n_b4_b7.symm
    replace hb4 : w21.heap[b4]? = some (.cells #[.int .i64 1, .int .i64 ((nx en ts).a), zS, zS, zI, zN, zN, zI, zS, zI, zN, zN, zI, zN, zI, zI, zS, zI, zN, zN, zI] 35) := S10.new
    replace hR := hR.setF S10 (.inr gb4)
    replace hB := Fr.below hR hB0 hB0.size hSge
    refine .fieldAddr rfl fo35_2 rfl ?_
    refine At.store1 rfl rfl hb4 sz9 (by simp) rfl (fun w22 S11 => ?_)
    replace hb0 := S11.other hb0 n_b0_b4
    replace hb1 := S11.other hb1 n_b1_b4
    replace hb2 := S11.other hb2 n_b2_b4
    replace hb3 := S11.other hb3 n_b3_b4
    replace hb5 := S11.other hb5 n_b4_b5.symm
    replace hb6 := S11.other hb6 n_b4_b6.symm
    replace hb7 := S11.other hb7 n_b4_b7.symm
    replace hb4 : w22.heap[b4]? = some (.cells #[.int .i64 1, .int .i64 ((nx en ts).a), .string (bs ((nx en ts).t)), zS, zI, zN, zN, zI, zS, zI, zN, zN, zI, zN, zI, zI, zS, zI, zN, zN, zI] 35) := S11.new
    replace hR := hR.setF S11 (.inr gb4)
    replace hB := Fr.below hR hB0 hB0.size hSge
    refine .ops0 (.inN (.thenN (.seq (.region (.load rfl (Ld.own (C := #[.int .i64 1, .int .i64 ((nx en ts).a), .string (bs ((nx en ts).t)), zS, zI, zN, zN, zI, zS, zI, zN, zN, zI, zN, zI, zI, zS, zI, zN, zN, zI]) ag35 sz35 hb4) rfl ?_)))))
    refine At.storeAll rfl rfl hb2 sz35 rfl (by first | (simp [Value.oneCell', ((SlOk.nil)).one]; done) | (simp only [List.all_toArray, List.all_cons, List.all_nil, ((SlOk.nil)).one, Bool.and_true, Bool.true_and]; rfl)) (fun w23 S12 => ?_)
    replace hb0 := S12.other hb0 n_b0_b2
    replace hb1 := S12.other hb1 n_b1_b2
    replace hb3 := S12.other hb3 n_b2_b3.symm
    replace hb4 := S12.other hb4 n_b2_b4.symm
    replace hb5 := S12.other hb5 n_b2_b5.symm
    replace hb6 := S12.other hb6 n_b2_b6.symm
    replace hb7 := S12.other hb7 n_b2_b7.symm
    replace hb2 : w23.heap[b2]? = some (.cells #[.int .i64 1, .int .i64 ((nx en ts).a), .string (bs ((nx en ts).t)), zS, zI, zN, zN, zI, zS, zI, zN, zN, zI, zN, zI, zI, zS, zI, zN, zN, zI] 35) := S12.new
    replace hR := hR.setF S12 (.inr gb2)
    replace hB := Fr.below hR hB0 hB0.size hSge
    refine .ops0 (.thenN (.retc (.doneR (ResV.cell rfl (Ld.own (C := #[.int .i64 1, .int .i64 ((nx en ts).a), .string (bs ((nx en ts).t)), zS, zI, zN, zN, zI, zS, zI, zN, zN, zI, zN, zI, zI, zS, zI, zN, zN, zI]) ag35 sz35 hb2) ResV.nil) ?_)))
    exact RetP.ok (x := (ST.mk 1 ((nx en ts).a) (bs ((nx en ts).t)) (⟨#[]⟩ : ByteArray) 0 [] [])) (by simp only [atomP, listOne_eq, failP, SB, hc1, hc2, hc4] <;> rfl) hR hts3 hb0 ⟨(tmA 1 ((nx en ts).a) (bs ((nx en ts).t)) (⟨#[]⟩ : ByteArray) 0 zN [] zN []), rfl, (tmA_ok (RowsAt.nil _ 21) (Xs.ok (Xs.nil kTm [] _)) (RowsAt.nil _ 23) (Xs.ok (Xs.nil kAm [] _))), (MT.made (k := 1) (a := (nx en ts).a) (nm := (bs ((nx en ts).t))) (pm := (⟨#[]⟩ : ByteArray)) (n := 0) (MTL.nil w) (MAL.nil w) (fun h => absurd rfl h) (fun h => absurd rfl h))⟩
   ·skip
    refine .seq (.region (.load rfl (Ld.ownCell ag77 hb1 rfl) rfl (.nilCheck rfl rfl (.fieldAddr rfl fo81_0 rfl ?_))))
    refine At.buildSlice (xs := [.const (.string (⟨#[114, 101, 97, 100]⟩ : ByteArray))]) rfl rfl el29 sz9 ze9 (by intro v hv; simp only [List.mem_cons, List.not_mem_nil, or_false] at hv; rcases hv with rfl <;> first | rfl | simp [Value.cells]) rfl (by decide) rfl (fun b8 w24 F8 => ?_)
    have n_b0_b8 : b0 ≠ b8 := Nat.ne_of_lt (F8.lt hb0)
    have n_b1_b8 : b1 ≠ b8 := Nat.ne_of_lt (F8.lt hb1)
    have n_b2_b8 : b2 ≠ b8 := Nat.ne_of_lt (F8.lt hb2)
    have n_b3_b8 : b3 ≠ b8 := Nat.ne_of_lt (F8.lt hb3)
    have n_b4_b8 : b4 ≠ b8 := Nat.ne_of_lt (F8.lt hb4)
    have n_b5_b8 : b5 ≠ b8 := Nat.ne_of_lt (F8.lt hb5)
    have n_b6_b8 : b6 ≠ b8 := Nat.ne_of_lt (F8.lt hb6)
    have n_b7_b8 : b7 ≠ b8 := Nat.ne_of_lt (F8.lt hb7)
    have gb8 := Nat.le_trans hR.size (Nat.le_of_eq F8.eq.symm)
    replace hb0 := F8.old hb0
    replace hb1 := F8.old hb1
    replace hb2 := F8.old hb2
    replace hb3 := F8.old hb3
    replace hb4 := F8.old hb4
    replace hb5 := F8.old hb5
    replace hb6 := F8.old hb6
    replace hb7 := F8.old hb7
    have hb8 : w24.heap[b8]? = some (.cells #[.string (⟨#[114, 101, 97, 100]⟩ : ByteArray)] 9) := F8.new
    replace hR := hR.freshF F8
    replace hB := Fr.below hR hB0 hB0.size hSge
    refine At.call en43 rfl rfl (is_any ts v (.slice (some ⟨b8, 0, none⟩) 1 1) ([(⟨#[114, 101, 97, 100]⟩ : ByteArray)]) _ ((hts).keep hB) hb0 ((StrsAt.own (ss := [(⟨#[114, 101, 97, 100]⟩ : ByteArray)]) hb8 rfl (by decide) : StrsAt _ (.slice (some ⟨b8, 0, none⟩) 1 1) [(⟨#[114, 101, 97, 100]⟩ : ByteArray)]))) (fun e w25 hR' => ?_)
    obtain ⟨rfl, hbl5⟩ := hR'
    refine ⟨_, rfl, ?_⟩
    replace hb0 := Below.old hbl5 hb0
    replace hb1 := Below.old hbl5 hb1
    replace hb2 := Below.old hbl5 hb2
    replace hb3 := Below.old hbl5 hb3
    replace hb4 := Below.old hbl5 hb4
    replace hb5 := Below.old hbl5 hb5
    replace hb6 := Below.old hbl5 hb6
    replace hb7 := Below.old hbl5 hb7
    replace hb8 := Below.old hbl5 hb8
    replace hR := hR.callF hbl5
    replace hB := Fr.below hR hB0 hB0.size hSge
    refine .assign rfl rfl (.ops0 (.thenN ?_))
    refine At.cond (b := (isK en ts ([(⟨#[114, 101, 97, 100]⟩ : ByteArray)]))) rfl (fun hc5 => ?_) (fun hc5 => ?_)
    ·skip
     refine .seq (.region (.load rfl (Ld.ownCell ag77 hb1 rfl) rfl ?_))
     refine At.buildSlice (xs := [.const (.string (⟨#[114, 101, 97, 100]⟩ : ByteArray)), .const (.string (⟨#[40]⟩ : ByteArray)), .const (.string (⟨#[41]⟩ : ByteArray))]) rfl rfl el29 sz9 ze9 (by intro v hv; simp only [List.mem_cons, List.not_mem_nil, or_false] at hv; rcases hv with rfl | rfl | rfl <;> first | rfl | simp [Value.cells]) rfl (by decide) rfl (fun b9 w26 F9 => ?_)
     have n_b0_b9 : b0 ≠ b9 := Nat.ne_of_lt (F9.lt hb0)
     have n_b1_b9 : b1 ≠ b9 := Nat.ne_of_lt (F9.lt hb1)
     have n_b2_b9 : b2 ≠ b9 := Nat.ne_of_lt (F9.lt hb2)
     have n_b3_b9 : b3 ≠ b9 := Nat.ne_of_lt (F9.lt hb3)
     have n_b4_b9 : b4 ≠ b9 := Nat.ne_of_lt (F9.lt hb4)
     have n_b5_b9 : b5 ≠ b9 := Nat.ne_of_lt (F9.lt hb5)
     have n_b6_b9 : b6 ≠ b9 := Nat.ne_of_lt (F9.lt hb6)
     have n_b7_b9 : b7 ≠ b9 := Nat.ne_of_lt (F9.lt hb7)
     have n_b8_b9 : b8 ≠ b9 := Nat.ne_of_lt (F9.lt hb8)
     have gb9 := Nat.le_trans hR.size (Nat.le_of_eq F9.eq.symm)
     replace hb0 := F9.old hb0
     replace hb1 := F9.old hb1
     replace hb2 := F9.old hb2
     replace hb3 := F9.old hb3
     replace hb4 := F9.old hb4
     replace hb5 := F9.old hb5
     replace hb6 := F9.old hb6
     replace hb7 := F9.old hb7
     replace hb8 := F9.old hb8
     have hb9 : w26.heap[b9]? = some (.cells #[.string (⟨#[114, 101, 97, 100]⟩ : ByteArray), .string (⟨#[40]⟩ : ByteArray), .string (⟨#[41]⟩ : ByteArray)] 9) := F9.new
     replace hR := hR.freshF F9
     replace hB := Fr.below hR hB0 hB0.size hSge
     refine At.callP en65 rfl rfl (ptext_any ts v (.slice (some ⟨b9, 0, none⟩) 3 3) ([(⟨#[114, 101, 97, 100]⟩ : ByteArray), (⟨#[40]⟩ : ByteArray), (⟨#[41]⟩ : ByteArray)]) _ hB hSge hts hb0 ((StrsAt.own (ss := [(⟨#[114, 101, 97, 100]⟩ : ByteArray), (⟨#[40]⟩ : ByteArray), (⟨#[41]⟩ : ByteArray)]) hb9 rfl (by decide) : StrsAt _ (.slice (some ⟨b9, 0, none⟩) 3 3) [(⟨#[114, 101, 97, 100]⟩ : ByteArray), (⟨#[40]⟩ : ByteArray), (⟨#[41]⟩ : ByteArray)])) (fun _ => show b9 ≠ b0 from n_b0_b9.symm)) (fun e wp4 hR' => ?_)
     rcases hR'.cases.symm with ⟨ba, bc, hq4, rfl, hF4, hbb⟩ | ⟨x4, us4, val4, vr4, hq4, rfl, hF4, hts4, hbo4, ho4⟩
     ·exact .inr ⟨_, rfl, (Pk.then (Pk.block (Pk.then (Pk.body (RetP.bad (by simp only [atomP, listOne_eq, failP, SB, hc1, hc2, hc4, hc5, hq4] <;> rfl) (Fr.then hR hF4 (fun k hk => .inl hk)) hbb)))))⟩
     refine .inl ⟨_, rfl, ?_⟩
     replace hb1 := Fr.oldB hF4 hb1 (n_b0_b1.symm)
     replace hb2 := Fr.oldB hF4 hb2 (n_b0_b2.symm)
     replace hb3 := Fr.oldB hF4 hb3 (n_b0_b3.symm)
     replace hb4 := Fr.oldB hF4 hb4 (n_b0_b4.symm)
     replace hb5 := Fr.oldB hF4 hb5 (n_b0_b5.symm)
     replace hb6 := Fr.oldB hF4 hb6 (n_b0_b6.symm)
     replace hb7 := Fr.oldB hF4 hb7 (n_b0_b7.symm)
     replace hb8 := Fr.oldB hF4 hb8 (n_b0_b8.symm)
     replace hb9 := Fr.oldB hF4 hb9 (n_b0_b9.symm)
     replace hb0 := hbo4
     have hsz4 := hR.size
     replace hR := Fr.then hR hF4 (fun k hk => .inl hk)
     replace hB := Fr.below hR hB0 hB0.size hSge
     obtain rfl := ho4
     refine .ops0 (.thenN (.region (.fieldAddr rfl fo35_0 rfl ?_)))
     refine At.store1 rfl rfl hb4 sz3 (by simp) rfl (fun w27 S13 => ?_)
     replace hb0 := S13.other hb0 n_b0_b4
     replace hb1 := S13.other hb1 n_b1_b4
     replace hb2 := S13.other hb2 n_b2_b4
     replace hb3 := S13.other hb3 n_b3_b4
     replace hb5 := S13.other hb5 n_b4_b5.symm
     replace hb6 := S13.other hb6 n_b4_b6.symm
     replace hb7 := S13.other hb7 n_b4_b7.symm
     replace hb8 := S13.other hb8 n_b4_b8.symm
     replace hb9 := S13.other hb9 n_b4_b9.symm
     replace hb4 : w27.heap[b4]? = some (.cells #[.int .i64 10, .int .i64 ((nx en ts).a), zS, zS, zI, zN, zN, zI, zS, zI, zN, zN, zI, zN, zI, zI, zS, zI, zN, zN, zI] 35) := S13.new
     replace hR := hR.setF S13 (.inr gb4)
     replace hB := Fr.below hR hB0 hB0.size hSge
     refine .fieldAddr rfl fo35_2 rfl ?_
     refine At.store1 rfl rfl hb4 sz9 (by simp) rfl (fun w28 S14 => ?_)
     replace hb0 := S14.other hb0 n_b0_b4
     replace hb1 := S14.other hb1 n_b1_b4
     replace hb2 := S14.other hb2 n_b2_b4
     replace hb3 := S14.other hb3 n_b3_b4
     replace hb5 := S14.other hb5 n_b4_b5.symm
     replace hb6 := S14.other hb6 n_b4_b6.symm
     replace hb7 := S14.other hb7 n_b4_b7.symm
     replace hb8 := S14.other hb8 n_b4_b8.symm
     replace hb9 := S14.other hb9 n_b4_b9.symm
     replace hb4 : w28.heap[b4]? = some (.cells #[.int .i64 10, .int .i64 ((nx en ts).a), .string (⟨#[114, 101, 97, 100]⟩ : ByteArray), zS, zI, zN, zN, zI, zS, zI, zN, zN, zI, zN, zI, zI, zS, zI, zN, zN, zI] 35) := S14.new
     replace hR := hR.setF S14 (.inr gb4)
     replace hB := Fr.below hR hB0 hB0.size hSge
     refine .ops0 (.inN (.thenN (.seq (.region (.load rfl (Ld.own (C := #[.int .i64 10, .int .i64 ((nx en ts).a), .string (⟨#[114, 101, 97, 100]⟩ : ByteArray), zS, zI, zN, zN, zI, zS, zI, zN, zN, zI, zN, zI, zI, zS, zI, zN, zN, zI]) ag35 sz35 hb4) rfl ?_)))))
     refine At.storeAll rfl rfl hb2 sz35 rfl (by first | (simp [Value.oneCell', ((SlOk.nil)).one]; done) | (simp only [List.all_toArray, List.all_cons, List.all_nil, ((SlOk.nil)).one, Bool.and_true, Bool.true_and]; rfl)) (fun w29 S15 => ?_)
     replace hb0 := S15.other hb0 n_b0_b2
     replace hb1 := S15.other hb1 n_b1_b2
     replace hb3 := S15.other hb3 n_b2_b3.symm
     replace hb4 := S15.other hb4 n_b2_b4.symm
     replace hb5 := S15.other hb5 n_b2_b5.symm
     replace hb6 := S15.other hb6 n_b2_b6.symm
     replace hb7 := S15.other hb7 n_b2_b7.symm
     replace hb8 := S15.other hb8 n_b2_b8.symm
     replace hb9 := S15.other hb9 n_b2_b9.symm
     replace hb2 : w29.heap[b2]? = some (.cells #[.int .i64 10, .int .i64 ((nx en ts).a), .string (⟨#[114, 101, 97, 100]⟩ : ByteArray), zS, zI, zN, zN, zI, zS, zI, zN, zN, zI, zN, zI, zI, zS, zI, zN, zN, zI] 35) := S15.new
     replace hR := hR.setF S15 (.inr gb2)
     replace hB := Fr.below hR hB0 hB0.size hSge
     refine .ops0 (.thenN (.retc (.doneR (ResV.cell rfl (Ld.own (C := #[.int .i64 10, .int .i64 ((nx en ts).a), .string (⟨#[114, 101, 97, 100]⟩ : ByteArray), zS, zI, zN, zN, zI, zS, zI, zN, zN, zI, zN, zI, zI, zS, zI, zN, zN, zI]) ag35 sz35 hb2) ResV.nil) ?_)))
     exact RetP.ok (x := (ST.mk 10 ((nx en ts).a) (⟨#[114, 101, 97, 100]⟩ : ByteArray) (⟨#[]⟩ : ByteArray) 0 [] [])) (by simp only [atomP, listOne_eq, failP, SB, hc1, hc2, hc4, hc5, hq4] <;> rfl) hR hts4 hb0 ⟨(tmA 10 ((nx en ts).a) (⟨#[114, 101, 97, 100]⟩ : ByteArray) (⟨#[]⟩ : ByteArray) 0 zN [] zN []), rfl, (tmA_ok (RowsAt.nil _ 21) (Xs.ok (Xs.nil kTm [] _)) (RowsAt.nil _ 23) (Xs.ok (Xs.nil kAm [] _))), (MT.made (k := 10) (a := (nx en ts).a) (nm := (⟨#[114, 101, 97, 100]⟩ : ByteArray)) (pm := (⟨#[]⟩ : ByteArray)) (n := 0) (MTL.nil w) (MAL.nil w) (fun h => absurd rfl h) (fun h => absurd rfl h))⟩
    ·skip
     refine .seq (.region (.load rfl (Ld.ownCell ag77 hb1 rfl) rfl (.nilCheck rfl rfl (.fieldAddr rfl fo81_0 rfl ?_))))
     refine At.buildSlice (xs := [.const (.int .i64 3)]) rfl rfl el48 sz3 ze3 (by intro v hv; simp only [List.mem_cons, List.not_mem_nil, or_false] at hv; rcases hv with rfl <;> first | rfl | simp [Value.cells]) rfl (by decide) rfl (fun b10 w30 F10 => ?_)
     have n_b0_b10 : b0 ≠ b10 := Nat.ne_of_lt (F10.lt hb0)
     have n_b1_b10 : b1 ≠ b10 := Nat.ne_of_lt (F10.lt hb1)
     have n_b2_b10 : b2 ≠ b10 := Nat.ne_of_lt (F10.lt hb2)
     have n_b3_b10 : b3 ≠ b10 := Nat.ne_of_lt (F10.lt hb3)
     have n_b4_b10 : b4 ≠ b10 := Nat.ne_of_lt (F10.lt hb4)
     have n_b5_b10 : b5 ≠ b10 := Nat.ne_of_lt (F10.lt hb5)
     have n_b6_b10 : b6 ≠ b10 := Nat.ne_of_lt (F10.lt hb6)
     have n_b7_b10 : b7 ≠ b10 := Nat.ne_of_lt (F10.lt hb7)
     have n_b8_b10 : b8 ≠ b10 := Nat.ne_of_lt (F10.lt hb8)
     have gb10 := Nat.le_trans hR.size (Nat.le_of_eq F10.eq.symm)
     replace hb0 := F10.old hb0
     replace hb1 := F10.old hb1
     replace hb2 := F10.old hb2
     replace hb3 := F10.old hb3
     replace hb4 := F10.old hb4
     replace hb5 := F10.old hb5
     replace hb6 := F10.old hb6
     replace hb7 := F10.old hb7
     replace hb8 := F10.old hb8
     have hb10 : w30.heap[b10]? = some (.cells #[.int .i64 3] 3) := F10.new
     replace hR := hR.freshF F10
     replace hB := Fr.below hR hB0 hB0.size hSge
     refine At.call en71 rfl rfl (kind_any ts v (.slice (some ⟨b10, 0, none⟩) 1 1) ([3]) _ ((hts).keep hB) hb0 ((IntsAt.own (l := [3]) hb10 rfl (by decide) : IntsAt _ (.slice (some ⟨b10, 0, none⟩) 1 1) [3]))) (fun e w31 hR' => ?_)
     obtain ⟨rfl, hbl6⟩ := hR'
     refine ⟨_, rfl, ?_⟩
     replace hb0 := Below.old hbl6 hb0
     replace hb1 := Below.old hbl6 hb1
     replace hb2 := Below.old hbl6 hb2
     replace hb3 := Below.old hbl6 hb3
     replace hb4 := Below.old hbl6 hb4
     replace hb5 := Below.old hbl6 hb5
     replace hb6 := Below.old hbl6 hb6
     replace hb7 := Below.old hbl6 hb7
     replace hb8 := Below.old hbl6 hb8
     replace hb10 := Below.old hbl6 hb10
     replace hR := hR.callF hbl6
     replace hB := Fr.below hR hB0 hB0.size hSge
     refine .assign rfl rfl (.ops0 (.thenN ?_))
     refine At.cond (b := (kdK en ts ([3]))) rfl (fun hc6 => ?_) (fun hc6 => ?_)
     ·skip
      refine .seq (.region (.load rfl (Ld.ownCell ag77 hb1 rfl) rfl (.nilCheck rfl rfl (.fieldAddr rfl fo81_0 rfl ?_))))
      refine At.call en74 rfl rfl (ptake_any ts v _ hB hSge hts hb0 (kd_len hc6 (by simp))) (fun e wp5 hR' => ?_)
      obtain ⟨vr5, rfl, hts5, hbo5, hF5⟩ := hR'
      refine ⟨_, rfl, ?_⟩
      replace hb1 := Fr.oldB hF5 hb1 (n_b0_b1.symm)
      replace hb2 := Fr.oldB hF5 hb2 (n_b0_b2.symm)
      replace hb3 := Fr.oldB hF5 hb3 (n_b0_b3.symm)
      replace hb4 := Fr.oldB hF5 hb4 (n_b0_b4.symm)
      replace hb5 := Fr.oldB hF5 hb5 (n_b0_b5.symm)
      replace hb6 := Fr.oldB hF5 hb6 (n_b0_b6.symm)
      replace hb7 := Fr.oldB hF5 hb7 (n_b0_b7.symm)
      replace hb8 := Fr.oldB hF5 hb8 (n_b0_b8.symm)
      replace hb10 := Fr.oldB hF5 hb10 (n_b0_b10.symm)
      replace hb0 := hbo5
      replace hR := Fr.then hR hF5 (fun k hk => .inl hk)
      replace hB := Fr.below hR hB0 hB0.size hSge
      refine .fieldC rfl ft47_1 ag9 (((tk_ok (nx en ts))).c1) rfl (.fieldAddr rfl fo35_0 rfl ?_)
      refine At.store1 rfl rfl hb4 sz3 (by simp) rfl (fun w32 S16 => ?_)
      replace hb0 := S16.other hb0 n_b0_b4
      replace hb1 := S16.other hb1 n_b1_b4
      replace hb2 := S16.other hb2 n_b2_b4
      replace hb3 := S16.other hb3 n_b3_b4
      replace hb5 := S16.other hb5 n_b4_b5.symm
      replace hb6 := S16.other hb6 n_b4_b6.symm
      replace hb7 := S16.other hb7 n_b4_b7.symm
      replace hb8 := S16.other hb8 n_b4_b8.symm
      replace hb10 := S16.other hb10 n_b4_b10.symm
      replace hb4 : w32.heap[b4]? = some (.cells #[.int .i64 11, .int .i64 ((nx en ts).a), zS, zS, zI, zN, zN, zI, zS, zI, zN, zN, zI, zN, zI, zI, zS, zI, zN, zN, zI] 35) := S16.new
      replace hR := hR.setF S16 (.inr gb4)
      replace hB := Fr.below hR hB0 hB0.size hSge
      refine .fieldAddr rfl fo35_2 rfl ?_
      refine At.store1 rfl rfl hb4 sz9 (by simp) rfl (fun w33 S17 => ?_)
      replace hb0 := S17.other hb0 n_b0_b4
      replace hb1 := S17.other hb1 n_b1_b4
      replace hb2 := S17.other hb2 n_b2_b4
      replace hb3 := S17.other hb3 n_b3_b4
      replace hb5 := S17.other hb5 n_b4_b5.symm
      replace hb6 := S17.other hb6 n_b4_b6.symm
      replace hb7 := S17.other hb7 n_b4_b7.symm
      replace hb8 := S17.other hb8 n_b4_b8.symm
      replace hb10 := S17.other hb10 n_b4_b10.symm
      replace hb4 : w33.heap[b4]? = some (.cells #[.int .i64 11, .int .i64 ((nx en ts).a), .string (bs ((nx en ts).t)), zS, zI, zN, zN, zI, zS, zI, zN, zN, zI, zN, zI, zI, zS, zI, zN, zN, zI] 35) := S17.new
      replace hR := hR.setF S17 (.inr gb4)
      replace hB := Fr.below hR hB0 hB0.size hSge
      refine .ops0 (.thenN (.seq (.region (.load rfl (Ld.ownCell ag77 hb1 rfl) rfl (.nilCheck rfl rfl (.fieldAddr rfl fo81_0 rfl ?_))))))
      refine At.buildSlice (xs := [.const (.string (⟨#[40]⟩ : ByteArray))]) rfl rfl el29 sz9 ze9 (by intro v hv; simp only [List.mem_cons, List.not_mem_nil, or_false] at hv; rcases hv with rfl <;> first | rfl | simp [Value.cells]) rfl (by decide) rfl (fun b11 w34 F11 => ?_)
      have n_b0_b11 : b0 ≠ b11 := Nat.ne_of_lt (F11.lt hb0)
      have n_b1_b11 : b1 ≠ b11 := Nat.ne_of_lt (F11.lt hb1)
      have n_b2_b11 : b2 ≠ b11 := Nat.ne_of_lt (F11.lt hb2)
      have n_b3_b11 : b3 ≠ b11 := Nat.ne_of_lt (F11.lt hb3)
      have n_b4_b11 : b4 ≠ b11 := Nat.ne_of_lt (F11.lt hb4)
      have n_b5_b11 : b5 ≠ b11 := Nat.ne_of_lt (F11.lt hb5)
      have n_b6_b11 : b6 ≠ b11 := Nat.ne_of_lt (F11.lt hb6)
      have n_b7_b11 : b7 ≠ b11 := Nat.ne_of_lt (F11.lt hb7)
      have n_b8_b11 : b8 ≠ b11 := Nat.ne_of_lt (F11.lt hb8)
      have n_b10_b11 : b10 ≠ b11 := Nat.ne_of_lt (F11.lt hb10)
      have gb11 := Nat.le_trans hR.size (Nat.le_of_eq F11.eq.symm)
      replace hb0 := F11.old hb0
      replace hb1 := F11.old hb1
      replace hb2 := F11.old hb2
      replace hb3 := F11.old hb3
      replace hb4 := F11.old hb4
      replace hb5 := F11.old hb5
      replace hb6 := F11.old hb6
      replace hb7 := F11.old hb7
      replace hb8 := F11.old hb8
      replace hb10 := F11.old hb10
      have hb11 : w34.heap[b11]? = some (.cells #[.string (⟨#[40]⟩ : ByteArray)] 9) := F11.new
      replace hR := hR.freshF F11
      replace hB := Fr.below hR hB0 hB0.size hSge
      refine At.call en43 rfl rfl (is_any ts.tail vr5 (.slice (some ⟨b11, 0, none⟩) 1 1) ([(⟨#[40]⟩ : ByteArray)]) _ ((hts5).keep hB) hb0 ((StrsAt.own (ss := [(⟨#[40]⟩ : ByteArray)]) hb11 rfl (by decide) : StrsAt _ (.slice (some ⟨b11, 0, none⟩) 1 1) [(⟨#[40]⟩ : ByteArray)]))) (fun e w35 hR' => ?_)
      obtain ⟨rfl, hbl7⟩ := hR'
      refine ⟨_, rfl, ?_⟩
      replace hb0 := Below.old hbl7 hb0
      replace hb1 := Below.old hbl7 hb1
      replace hb2 := Below.old hbl7 hb2
      replace hb3 := Below.old hbl7 hb3
      replace hb4 := Below.old hbl7 hb4
      replace hb5 := Below.old hbl7 hb5
      replace hb6 := Below.old hbl7 hb6
      replace hb7 := Below.old hbl7 hb7
      replace hb8 := Below.old hbl7 hb8
      replace hb10 := Below.old hbl7 hb10
      replace hb11 := Below.old hbl7 hb11
      replace hR := hR.callF hbl7
      replace hB := Fr.below hR hB0 hB0.size hSge
      refine .ops0 (.thenN ?_)
      refine At.cond (b := (isK en ts.tail ([(⟨#[40]⟩ : ByteArray)]))) rfl (fun hc7 => ?_) (fun hc7 => ?_)
      ·skip
       refine .region (.load rfl (Ld.ownCell ag77 hb1 rfl) rfl (.makeFunc rfl rfl ?_))
       have hlt6_b2 := (Array.getElem?_eq_some_iff.1 hb2).1
       have hml6 : MLt w35.heap.size [some b0, some b1, some b2, some b3, some b4, some b5, some b6, some b7, some b8, some b10, some b11] := (MLt.blk hb0 (MLt.blk hb1 (MLt.blk hb2 (MLt.blk hb3 (MLt.blk hb4 (MLt.blk hb5 (MLt.blk hb6 (MLt.blk hb7 (MLt.blk hb8 (MLt.blk hb10 (MLt.blk hb11 (MLt.nil _))))))))))))
       have hsz6 := hR.size
       have hsy6 : ts.tail.length ≤ ts.length := by have := tail_len (kd_len hc6 (by simp)); omega
       refine At.callP en67 rfl rfl (grow_list kTm 35 21 Tm.cs MT [some b0, some b1, some b2, some b3, some b4, some b5, some b6, some b7, some b8, some b10, some b11] (fun v => #[.int .i64 11, .int .i64 ((nx en ts).a), .string (bs ((nx en ts).t)), zS, zI, v, zN, zI, zS, zI, zN, zN, zI, zN, zI, zI, zS, zI, zN, zN, zI]) b4 35 b1 ts.tail vr5 (⟨#[40]⟩ : ByteArray) (⟨#[44]⟩ : ByteArray) (⟨#[41]⟩ : ByteArray) ex 108 _ hB hSge hts5 hb0 en108 [.pointer (some ⟨b4, 0, none⟩), .pointer (some ⟨b1, 0, none⟩)] rfl rfl rfl hml6 (Nat.le_trans hB0.size gb4) hb4 hb1 (fun _ _ _ _ hs h => MT.mono h hs) hxs (fun us vr v es w1 h1 h2 h3 h4 h5 h6 h7 h8 h9 h10 h11 => atom1_any us vr [some b0, some b1, some b2, some b3, some b4, some b5, some b6, some b7, some b8, some b10, some b11] b4 b1 v es ex 11 ((nx en ts).a) (bs ((nx en ts).t)) (⟨#[]⟩ : ByteArray) 0 w1 h1 h2 h3 h4 h5 h6 h7 h8 h9 (by omega) h11 hxs hex)) (fun e wp6 hR' => ?_)
       rcases hR'.cases.symm with ⟨ba, bc, hq6, rfl, hF6, hbb⟩ | ⟨x6, us6, val, vr6, hq6, rfl, hF6, hts6, hbo6, ho6⟩
       ·exact .inr ⟨_, rfl, (Pk.block (Pk.then (Pk.body (RetP.bad (by simp only [atomP, listOne_eq, failP, SB, hc1, hc2, hc4, hc5, hc6, hc7, hq6] <;> rfl) (Fr.then hR hF6 (fun k hk => hk.elim .inl (fun e => .inr (e ▸ gb4)))) hbb))))⟩
       refine .inl ⟨_, rfl, ?_⟩
       obtain ⟨rfl, _, vg6, es6, hbx6, hO_6, gO_6, hX_6, hA_6, hlen6, hbp6, hsw6, hnx6⟩ := ho6
       have q_hO_6_b2 : some b2 ≠ Value.ownBlock vg6 := fun e => by have h1 := gO_6 _ e.symm; omega
       replace gO_6 : ∀ g, Value.ownBlock vg6 = some g → w.heap.size ≤ g := fun g hg => Nat.le_trans hsz6 (gO_6 g hg)
       replace hb1 := hF6.old _ _ (fun hk => hk.elim (fun e => n_b0_b1 e.symm) (fun e => n_b1_b4.symm e.symm)) hb1
       replace hb2 := hF6.old _ _ (fun hk => hk.elim (fun e => n_b0_b2 e.symm) (fun e => n_b2_b4.symm e.symm)) hb2
       replace hb3 := hF6.old _ _ (fun hk => hk.elim (fun e => n_b0_b3 e.symm) (fun e => n_b3_b4.symm e.symm)) hb3
       replace hb5 := hF6.old _ _ (fun hk => hk.elim (fun e => n_b0_b5 e.symm) (fun e => n_b4_b5 e.symm)) hb5
       replace hb6 := hF6.old _ _ (fun hk => hk.elim (fun e => n_b0_b6 e.symm) (fun e => n_b4_b6 e.symm)) hb6
       replace hb7 := hF6.old _ _ (fun hk => hk.elim (fun e => n_b0_b7 e.symm) (fun e => n_b4_b7 e.symm)) hb7
       replace hb8 := hF6.old _ _ (fun hk => hk.elim (fun e => n_b0_b8 e.symm) (fun e => n_b4_b8 e.symm)) hb8
       replace hb10 := hF6.old _ _ (fun hk => hk.elim (fun e => n_b0_b10 e.symm) (fun e => n_b4_b10 e.symm)) hb10
       replace hb11 := hF6.old _ _ (fun hk => hk.elim (fun e => n_b0_b11 e.symm) (fun e => n_b4_b11 e.symm)) hb11
       replace hb0 := hbo6
       have hb4 := hbx6
       replace hR := Fr.then hR hF6 (fun k hk => hk.elim .inl (fun e => .inr (e ▸ gb4)))
       replace hB := Fr.below hR hB0 hB0.size hSge
       replace hb4 : wp6.heap[b4]? = some (.cells #[.int .i64 11, .int .i64 ((nx en ts).a), .string (bs ((nx en ts).t)), zS, zI, vg6, zN, zI, zS, zI, zN, zN, zI, zN, zI, zI, zS, zI, zN, zN, zI] 35) := hb4
       refine .ops0 (.inN (.thenN (.seq (.region (.load rfl (Ld.own (C := #[.int .i64 11, .int .i64 ((nx en ts).a), .string (bs ((nx en ts).t)), zS, zI, vg6, zN, zI, zS, zI, zN, zN, zI, zN, zI, zI, zS, zI, zN, zN, zI]) ag35 sz35 hb4) rfl ?_)))))
       refine At.storeAll rfl rfl hb2 sz35 rfl (by first | (simp [Value.oneCell', (hO_6).one, ((SlOk.nil)).one]; done) | (simp only [List.all_toArray, List.all_cons, List.all_nil, (hO_6).one, ((SlOk.nil)).one, Bool.and_true, Bool.true_and]; rfl)) (fun w36 S18 => ?_)
       replace hb0 := S18.other hb0 n_b0_b2
       replace hb1 := S18.other hb1 n_b1_b2
       replace hb3 := S18.other hb3 n_b2_b3.symm
       replace hb4 := S18.other hb4 n_b2_b4.symm
       replace hb5 := S18.other hb5 n_b2_b5.symm
       replace hb6 := S18.other hb6 n_b2_b6.symm
       replace hb7 := S18.other hb7 n_b2_b7.symm
       replace hb8 := S18.other hb8 n_b2_b8.symm
       replace hb10 := S18.other hb10 n_b2_b10.symm
       replace hb11 := S18.other hb11 n_b2_b11.symm
       replace hO_6 := hO_6.set S18 q_hO_6_b2
       replace hX_6 := Xs.set hX_6 S18 (by simp)
       replace hb2 : w36.heap[b2]? = some (.cells #[.int .i64 11, .int .i64 ((nx en ts).a), .string (bs ((nx en ts).t)), zS, zI, vg6, zN, zI, zS, zI, zN, zN, zI, zN, zI, zI, zS, zI, zN, zN, zI] 35) := S18.new
       replace hR := hR.setF S18 (.inr gb2)
       replace hB := Fr.below hR hB0 hB0.size hSge
       refine .ops0 (.thenN (.retc (.doneR (ResV.cell rfl (Ld.own (C := #[.int .i64 11, .int .i64 ((nx en ts).a), .string (bs ((nx en ts).t)), zS, zI, vg6, zN, zI, zS, zI, zN, zN, zI, zN, zI, zI, zS, zI, zN, zN, zI]) ag35 sz35 hb2) ResV.nil) ?_)))
       exact RetP.ok (x := (ST.mk 11 ((nx en ts).a) (bs ((nx en ts).t)) (⟨#[]⟩ : ByteArray) 0 x6 [])) (by simp only [atomP, listOne_eq, failP, SB, hc1, hc2, hc4, hc5, hc6, hc7, hq6] <;> rfl) hR hts6 hb0 ⟨(tmA 11 ((nx en ts).a) (bs ((nx en ts).t)) (⟨#[]⟩ : ByteArray) 0 vg6 es6 zN []), rfl, (tmA_ok (OwnR.rows hO_6 (fun u hu => (((Xs.ok hX_6)) u hu).size)) (Xs.ok (Xs.weaken (M' := []) hX_6 SubM.nil)) (RowsAt.nil _ 23) (Xs.ok (Xs.nil kAm [] _))), (MT.made (k := 11) (a := (nx en ts).a) (nm := (bs ((nx en ts).t))) (pm := (⟨#[]⟩ : ByteArray)) (n := 0) (MTL.mono hA_6 hsz6) (MAL.nil w) (fun hn => OwnR.vbGe hO_6 gO_6 hn) (fun h => absurd rfl h))⟩
      ·skip
       refine .skip (.inN (.thenN (.seq (.region (.load rfl (Ld.own (C := #[.int .i64 11, .int .i64 ((nx en ts).a), .string (bs ((nx en ts).t)), zS, zI, zN, zN, zI, zS, zI, zN, zN, zI, zN, zI, zI, zS, zI, zN, zN, zI]) ag35 sz35 hb4) rfl ?_)))))
       refine At.storeAll rfl rfl hb2 sz35 rfl (by first | (simp [Value.oneCell', ((SlOk.nil)).one]; done) | (simp only [List.all_toArray, List.all_cons, List.all_nil, ((SlOk.nil)).one, Bool.and_true, Bool.true_and]; rfl)) (fun w37 S19 => ?_)
       replace hb0 := S19.other hb0 n_b0_b2
       replace hb1 := S19.other hb1 n_b1_b2
       replace hb3 := S19.other hb3 n_b2_b3.symm
       replace hb4 := S19.other hb4 n_b2_b4.symm
       replace hb5 := S19.other hb5 n_b2_b5.symm
       replace hb6 := S19.other hb6 n_b2_b6.symm
       replace hb7 := S19.other hb7 n_b2_b7.symm
       replace hb8 := S19.other hb8 n_b2_b8.symm
       replace hb10 := S19.other hb10 n_b2_b10.symm
       replace hb11 := S19.other hb11 n_b2_b11.symm
       replace hb2 : w37.heap[b2]? = some (.cells #[.int .i64 11, .int .i64 ((nx en ts).a), .string (bs ((nx en ts).t)), zS, zI, zN, zN, zI, zS, zI, zN, zN, zI, zN, zI, zI, zS, zI, zN, zN, zI] 35) := S19.new
       replace hR := hR.setF S19 (.inr gb2)
       replace hB := Fr.below hR hB0 hB0.size hSge
       refine .ops0 (.thenN (.retc (.doneR (ResV.cell rfl (Ld.own (C := #[.int .i64 11, .int .i64 ((nx en ts).a), .string (bs ((nx en ts).t)), zS, zI, zN, zN, zI, zS, zI, zN, zN, zI, zN, zI, zI, zS, zI, zN, zN, zI]) ag35 sz35 hb2) ResV.nil) ?_)))
       exact RetP.ok (x := (ST.mk 11 ((nx en ts).a) (bs ((nx en ts).t)) (⟨#[]⟩ : ByteArray) 0 [] [])) (by simp only [atomP, listOne_eq, failP, SB, hc1, hc2, hc4, hc5, hc6, hc7] <;> rfl) hR hts5 hb0 ⟨(tmA 11 ((nx en ts).a) (bs ((nx en ts).t)) (⟨#[]⟩ : ByteArray) 0 zN [] zN []), rfl, (tmA_ok (RowsAt.nil _ 21) (Xs.ok (Xs.nil kTm [] _)) (RowsAt.nil _ 23) (Xs.ok (Xs.nil kAm [] _))), (MT.made (k := 11) (a := (nx en ts).a) (nm := (bs ((nx en ts).t))) (pm := (⟨#[]⟩ : ByteArray)) (n := 0) (MTL.nil w) (MAL.nil w) (fun h => absurd rfl h) (fun h => absurd rfl h))⟩
     ·skip
      refine .seq (.region (.load rfl (Ld.ownCell ag77 hb1 rfl) rfl (.nilCheck rfl rfl (.fieldAddr rfl fo81_0 rfl ?_))))
      refine At.buildSlice (xs := [.const (.string (⟨#[40]⟩ : ByteArray))]) rfl rfl el29 sz9 ze9 (by intro v hv; simp only [List.mem_cons, List.not_mem_nil, or_false] at hv; rcases hv with rfl <;> first | rfl | simp [Value.cells]) rfl (by decide) rfl (fun b12 w38 F12 => ?_)
      have n_b0_b12 : b0 ≠ b12 := Nat.ne_of_lt (F12.lt hb0)
      have n_b1_b12 : b1 ≠ b12 := Nat.ne_of_lt (F12.lt hb1)
      have n_b2_b12 : b2 ≠ b12 := Nat.ne_of_lt (F12.lt hb2)
      have n_b3_b12 : b3 ≠ b12 := Nat.ne_of_lt (F12.lt hb3)
      have n_b4_b12 : b4 ≠ b12 := Nat.ne_of_lt (F12.lt hb4)
      have n_b5_b12 : b5 ≠ b12 := Nat.ne_of_lt (F12.lt hb5)
      have n_b6_b12 : b6 ≠ b12 := Nat.ne_of_lt (F12.lt hb6)
      have n_b7_b12 : b7 ≠ b12 := Nat.ne_of_lt (F12.lt hb7)
      have n_b8_b12 : b8 ≠ b12 := Nat.ne_of_lt (F12.lt hb8)
      have n_b10_b12 : b10 ≠ b12 := Nat.ne_of_lt (F12.lt hb10)
      have gb12 := Nat.le_trans hR.size (Nat.le_of_eq F12.eq.symm)
      replace hb0 := F12.old hb0
      replace hb1 := F12.old hb1
      replace hb2 := F12.old hb2
      replace hb3 := F12.old hb3
      replace hb4 := F12.old hb4
      replace hb5 := F12.old hb5
      replace hb6 := F12.old hb6
      replace hb7 := F12.old hb7
      replace hb8 := F12.old hb8
      replace hb10 := F12.old hb10
      have hb12 : w38.heap[b12]? = some (.cells #[.string (⟨#[40]⟩ : ByteArray)] 9) := F12.new
      replace hR := hR.freshF F12
      replace hB := Fr.below hR hB0 hB0.size hSge
      refine At.call en43 rfl rfl (is_any ts v (.slice (some ⟨b12, 0, none⟩) 1 1) ([(⟨#[40]⟩ : ByteArray)]) _ ((hts).keep hB) hb0 ((StrsAt.own (ss := [(⟨#[40]⟩ : ByteArray)]) hb12 rfl (by decide) : StrsAt _ (.slice (some ⟨b12, 0, none⟩) 1 1) [(⟨#[40]⟩ : ByteArray)]))) (fun e w39 hR' => ?_)
      obtain ⟨rfl, hbl8⟩ := hR'
      refine ⟨_, rfl, ?_⟩
      replace hb0 := Below.old hbl8 hb0
      replace hb1 := Below.old hbl8 hb1
      replace hb2 := Below.old hbl8 hb2
      replace hb3 := Below.old hbl8 hb3
      replace hb4 := Below.old hbl8 hb4
      replace hb5 := Below.old hbl8 hb5
      replace hb6 := Below.old hbl8 hb6
      replace hb7 := Below.old hbl8 hb7
      replace hb8 := Below.old hbl8 hb8
      replace hb10 := Below.old hbl8 hb10
      replace hb12 := Below.old hbl8 hb12
      replace hR := hR.callF hbl8
      replace hB := Fr.below hR hB0 hB0.size hSge
      refine .assign rfl rfl (.ops0 (.thenN ?_))
      refine At.cond (b := (isK en ts ([(⟨#[40]⟩ : ByteArray)]))) rfl (fun hc8 => ?_) (fun hc8 => ?_)
      ·skip
       refine .seq (.region (.load rfl (Ld.ownCell ag77 hb1 rfl) rfl (.nilCheck rfl rfl (.fieldAddr rfl fo81_0 rfl ?_))))
       refine At.call en74 rfl rfl (ptake_any ts v _ hB hSge hts hb0 (is_len hc8)) (fun e wp7 hR' => ?_)
       obtain ⟨vr7, rfl, hts7, hbo7, hF7⟩ := hR'
       refine ⟨_, rfl, ?_⟩
       replace hb1 := Fr.oldB hF7 hb1 (n_b0_b1.symm)
       replace hb2 := Fr.oldB hF7 hb2 (n_b0_b2.symm)
       replace hb3 := Fr.oldB hF7 hb3 (n_b0_b3.symm)
       replace hb4 := Fr.oldB hF7 hb4 (n_b0_b4.symm)
       replace hb5 := Fr.oldB hF7 hb5 (n_b0_b5.symm)
       replace hb6 := Fr.oldB hF7 hb6 (n_b0_b6.symm)
       replace hb7 := Fr.oldB hF7 hb7 (n_b0_b7.symm)
       replace hb8 := Fr.oldB hF7 hb8 (n_b0_b8.symm)
       replace hb10 := Fr.oldB hF7 hb10 (n_b0_b10.symm)
       replace hb12 := Fr.oldB hF7 hb12 (n_b0_b12.symm)
       replace hb0 := hbo7
       replace hR := Fr.then hR hF7 (fun k hk => .inl hk)
       replace hB := Fr.below hR hB0 hB0.size hSge
       refine .ops0 (.thenN (.seq (.seq (.region (.load rfl (Ld.ownCell ag77 hb1 rfl) rfl (.nilCheck rfl rfl (.fieldAddr rfl fo81_0 rfl ?_)))))))
       refine At.buildSlice (xs := [.const (.string (⟨#[41]⟩ : ByteArray))]) rfl rfl el29 sz9 ze9 (by intro v hv; simp only [List.mem_cons, List.not_mem_nil, or_false] at hv; rcases hv with rfl <;> first | rfl | simp [Value.cells]) rfl (by decide) rfl (fun b13 w40 F13 => ?_)
       have n_b0_b13 : b0 ≠ b13 := Nat.ne_of_lt (F13.lt hb0)
       have n_b1_b13 : b1 ≠ b13 := Nat.ne_of_lt (F13.lt hb1)
       have n_b2_b13 : b2 ≠ b13 := Nat.ne_of_lt (F13.lt hb2)
       have n_b3_b13 : b3 ≠ b13 := Nat.ne_of_lt (F13.lt hb3)
       have n_b4_b13 : b4 ≠ b13 := Nat.ne_of_lt (F13.lt hb4)
       have n_b5_b13 : b5 ≠ b13 := Nat.ne_of_lt (F13.lt hb5)
       have n_b6_b13 : b6 ≠ b13 := Nat.ne_of_lt (F13.lt hb6)
       have n_b7_b13 : b7 ≠ b13 := Nat.ne_of_lt (F13.lt hb7)
       have n_b8_b13 : b8 ≠ b13 := Nat.ne_of_lt (F13.lt hb8)
       have n_b10_b13 : b10 ≠ b13 := Nat.ne_of_lt (F13.lt hb10)
       have n_b12_b13 : b12 ≠ b13 := Nat.ne_of_lt (F13.lt hb12)
       have gb13 := Nat.le_trans hR.size (Nat.le_of_eq F13.eq.symm)
       replace hb0 := F13.old hb0
       replace hb1 := F13.old hb1
       replace hb2 := F13.old hb2
       replace hb3 := F13.old hb3
       replace hb4 := F13.old hb4
       replace hb5 := F13.old hb5
       replace hb6 := F13.old hb6
       replace hb7 := F13.old hb7
       replace hb8 := F13.old hb8
       replace hb10 := F13.old hb10
       replace hb12 := F13.old hb12
       have hb13 : w40.heap[b13]? = some (.cells #[.string (⟨#[41]⟩ : ByteArray)] 9) := F13.new
       replace hR := hR.freshF F13
       replace hB := Fr.below hR hB0 hB0.size hSge
       refine At.call en43 rfl rfl (is_any ts.tail vr7 (.slice (some ⟨b13, 0, none⟩) 1 1) ([(⟨#[41]⟩ : ByteArray)]) _ ((hts7).keep hB) hb0 ((StrsAt.own (ss := [(⟨#[41]⟩ : ByteArray)]) hb13 rfl (by decide) : StrsAt _ (.slice (some ⟨b13, 0, none⟩) 1 1) [(⟨#[41]⟩ : ByteArray)]))) (fun e w41 hR' => ?_)
       obtain ⟨rfl, hbl9⟩ := hR'
       refine ⟨_, rfl, ?_⟩
       replace hb0 := Below.old hbl9 hb0
       replace hb1 := Below.old hbl9 hb1
       replace hb2 := Below.old hbl9 hb2
       replace hb3 := Below.old hbl9 hb3
       replace hb4 := Below.old hbl9 hb4
       replace hb5 := Below.old hbl9 hb5
       replace hb6 := Below.old hbl9 hb6
       replace hb7 := Below.old hbl9 hb7
       replace hb8 := Below.old hbl9 hb8
       replace hb10 := Below.old hbl9 hb10
       replace hb12 := Below.old hbl9 hb12
       replace hb13 := Below.old hbl9 hb13
       replace hR := hR.callF hbl9
       replace hB := Fr.below hR hB0 hB0.size hSge
       refine .ops0 (.thenN ?_)
       refine At.cond (b := (isK en ts.tail ([(⟨#[41]⟩ : ByteArray)]))) rfl (fun hc9 => ?_) (fun hc9 => ?_)
       ·skip
        refine .seq (.region (.load rfl (Ld.ownCell ag77 hb1 rfl) rfl (.nilCheck rfl rfl (.fieldAddr rfl fo81_0 rfl ?_))))
        refine At.call en74 rfl rfl (ptake_any ts.tail vr7 _ hB hSge hts7 hb0 (is_len hc9)) (fun e wp8 hR' => ?_)
        obtain ⟨vr8, rfl, hts8, hbo8, hF8⟩ := hR'
        refine ⟨_, rfl, ?_⟩
        replace hb1 := Fr.oldB hF8 hb1 (n_b0_b1.symm)
        replace hb2 := Fr.oldB hF8 hb2 (n_b0_b2.symm)
        replace hb3 := Fr.oldB hF8 hb3 (n_b0_b3.symm)
        replace hb4 := Fr.oldB hF8 hb4 (n_b0_b4.symm)
        replace hb5 := Fr.oldB hF8 hb5 (n_b0_b5.symm)
        replace hb6 := Fr.oldB hF8 hb6 (n_b0_b6.symm)
        replace hb7 := Fr.oldB hF8 hb7 (n_b0_b7.symm)
        replace hb8 := Fr.oldB hF8 hb8 (n_b0_b8.symm)
        replace hb10 := Fr.oldB hF8 hb10 (n_b0_b10.symm)
        replace hb12 := Fr.oldB hF8 hb12 (n_b0_b12.symm)
        replace hb13 := Fr.oldB hF8 hb13 (n_b0_b13.symm)
        replace hb0 := hbo8
        replace hR := Fr.then hR hF8 (fun k hk => .inl hk)
        replace hB := Fr.below hR hB0 hB0.size hSge
        refine .ops0 (.thenN (.seq (.region (.fieldAddr rfl fo35_0 rfl ?_))))
        refine At.store1 rfl rfl hb4 sz3 (by simp) rfl (fun w42 S20 => ?_)
        replace hb0 := S20.other hb0 n_b0_b4
        replace hb1 := S20.other hb1 n_b1_b4
        replace hb2 := S20.other hb2 n_b2_b4
        replace hb3 := S20.other hb3 n_b3_b4
        replace hb5 := S20.other hb5 n_b4_b5.symm
        replace hb6 := S20.other hb6 n_b4_b6.symm
        replace hb7 := S20.other hb7 n_b4_b7.symm
        replace hb8 := S20.other hb8 n_b4_b8.symm
        replace hb10 := S20.other hb10 n_b4_b10.symm
        replace hb12 := S20.other hb12 n_b4_b12.symm
        replace hb13 := S20.other hb13 n_b4_b13.symm
        replace hb4 : w42.heap[b4]? = some (.cells #[.int .i64 4, .int .i64 ((nx en ts).a), zS, zS, zI, zN, zN, zI, zS, zI, zN, zN, zI, zN, zI, zI, zS, zI, zN, zN, zI] 35) := S20.new
        replace hR := hR.setF S20 (.inr gb4)
        replace hB := Fr.below hR hB0 hB0.size hSge
        refine .ops0 (.thenN (.seq (.region (.load rfl (Ld.own (C := #[.int .i64 4, .int .i64 ((nx en ts).a), zS, zS, zI, zN, zN, zI, zS, zI, zN, zN, zI, zN, zI, zI, zS, zI, zN, zN, zI]) ag35 sz35 hb4) rfl ?_))))
        refine At.storeAll rfl rfl hb2 sz35 rfl (by first | (simp [Value.oneCell', ((SlOk.nil)).one]; done) | (simp only [List.all_toArray, List.all_cons, List.all_nil, ((SlOk.nil)).one, Bool.and_true, Bool.true_and]; rfl)) (fun w43 S21 => ?_)
        replace hb0 := S21.other hb0 n_b0_b2
        replace hb1 := S21.other hb1 n_b1_b2
        replace hb3 := S21.other hb3 n_b2_b3.symm
        replace hb4 := S21.other hb4 n_b2_b4.symm
        replace hb5 := S21.other hb5 n_b2_b5.symm
        replace hb6 := S21.other hb6 n_b2_b6.symm
        replace hb7 := S21.other hb7 n_b2_b7.symm
        replace hb8 := S21.other hb8 n_b2_b8.symm
        replace hb10 := S21.other hb10 n_b2_b10.symm
        replace hb12 := S21.other hb12 n_b2_b12.symm
        replace hb13 := S21.other hb13 n_b2_b13.symm
        replace hb2 : w43.heap[b2]? = some (.cells #[.int .i64 4, .int .i64 ((nx en ts).a), zS, zS, zI, zN, zN, zI, zS, zI, zN, zN, zI, zN, zI, zI, zS, zI, zN, zN, zI] 35) := S21.new
        replace hR := hR.setF S21 (.inr gb2)
        replace hB := Fr.below hR hB0 hB0.size hSge
        refine .ops0 (.thenN (.retc (.thenR (.inR (.thenR (.doneR (ResV.cell rfl (Ld.own (C := #[.int .i64 4, .int .i64 ((nx en ts).a), zS, zS, zI, zN, zN, zI, zS, zI, zN, zN, zI, zN, zI, zI, zS, zI, zN, zN, zI]) ag35 sz35 hb2) ResV.nil) ?_))))))
        exact RetP.ok (x := (ST.mk 4 ((nx en ts).a) (⟨#[]⟩ : ByteArray) (⟨#[]⟩ : ByteArray) 0 [] [])) (by simp only [atomP, listOne_eq, failP, SB, hc1, hc2, hc4, hc5, hc6, hc8, hc9] <;> rfl) hR hts8 hb0 ⟨(tmA 4 ((nx en ts).a) (⟨#[]⟩ : ByteArray) (⟨#[]⟩ : ByteArray) 0 zN [] zN []), rfl, (tmA_ok (RowsAt.nil _ 21) (Xs.ok (Xs.nil kTm [] _)) (RowsAt.nil _ 23) (Xs.ok (Xs.nil kAm [] _))), (MT.made (k := 4) (a := (nx en ts).a) (nm := (⟨#[]⟩ : ByteArray)) (pm := (⟨#[]⟩ : ByteArray)) (n := 0) (MTL.nil w) (MAL.nil w) (fun h => absurd rfl h) (fun h => absurd rfl h))⟩
       ·skip
        refine .skip (.thenN (.seq (.region (.load rfl (Ld.ownCell ag77 hb1 rfl) rfl ?_))))
        have hml9 : MLt w41.heap.size [some b0, some b1, some b2, some b3, some b4, some b5, some b6, some b7, some b8, some b10, some b12, some b13] := (MLt.blk hb0 (MLt.blk hb1 (MLt.blk hb2 (MLt.blk hb3 (MLt.blk hb4 (MLt.blk hb5 (MLt.blk hb6 (MLt.blk hb7 (MLt.blk hb8 (MLt.blk hb10 (MLt.blk hb12 (MLt.blk hb13 (MLt.nil _)))))))))))))
        refine At.callP en46 rfl rfl (hex wB b0 ts.tail vr7 _ hB hSge hts7 hb0 (by have hz := hbig; have := tail_len (is_len hc8); omega)) (fun e wp9 hR' => ?_)
        rcases hR'.cases.symm with ⟨ba, bc, hq9, rfl, hF9, hbb⟩ | ⟨x9, us9, val9, vr9, hq9, rfl, hF9, hts9, hbo9, ho9⟩
        ·exact .inr ⟨_, rfl, (Pk.then (Pk.block (Pk.then (Pk.body (RetP.bad (by simp only [atomP, listOne_eq, failP, SB, hc1, hc2, hc4, hc5, hc6, hc8, hc9, hq9] <;> rfl) (Fr.then hR hF9 (fun k hk => .inl hk)) hbb)))))⟩
        refine .inl ⟨_, rfl, ?_⟩
        replace hb1 := Fr.oldB hF9 hb1 (n_b0_b1.symm)
        replace hb2 := Fr.oldB hF9 hb2 (n_b0_b2.symm)
        replace hb3 := Fr.oldB hF9 hb3 (n_b0_b3.symm)
        replace hb4 := Fr.oldB hF9 hb4 (n_b0_b4.symm)
        replace hb5 := Fr.oldB hF9 hb5 (n_b0_b5.symm)
        replace hb6 := Fr.oldB hF9 hb6 (n_b0_b6.symm)
        replace hb7 := Fr.oldB hF9 hb7 (n_b0_b7.symm)
        replace hb8 := Fr.oldB hF9 hb8 (n_b0_b8.symm)
        replace hb10 := Fr.oldB hF9 hb10 (n_b0_b10.symm)
        replace hb12 := Fr.oldB hF9 hb12 (n_b0_b12.symm)
        replace hb13 := Fr.oldB hF9 hb13 (n_b0_b13.symm)
        replace hb0 := hbo9
        have hsz9 := hR.size
        replace hR := Fr.then hR hF9 (fun k hk => .inl hk)
        replace hB := Fr.below hR hB0 hB0.size hSge
        obtain ⟨tm9, rfl, htm9, hmt9⟩ := ho9
        have hx9 := Xs.of_new (B := 0) (M := [some b0, some b1, some b2, some b3, some b4, some b5, some b6, some b7, some b8, some b10, some b12, some b13]) (K := kTm) htm9 (fun b hb => .inr (hmt9.blk b hb)) (fun _ _ => Nat.zero_le _) hml9
        replace hmt9 := hmt9.mono hsz9
        refine At.storeAll rfl rfl hb4 (sz35.trans (congrArg some ((Xs.one hx9)).size.symm)) ((Xs.one hx9)).size.symm ((Xs.one hx9)).one (fun w44 S22 => ?_)
        replace hb0 := S22.other hb0 n_b0_b4
        replace hb1 := S22.other hb1 n_b1_b4
        replace hb2 := S22.other hb2 n_b2_b4
        replace hb3 := S22.other hb3 n_b3_b4
        replace hb5 := S22.other hb5 n_b4_b5.symm
        replace hb6 := S22.other hb6 n_b4_b6.symm
        replace hb7 := S22.other hb7 n_b4_b7.symm
        replace hb8 := S22.other hb8 n_b4_b8.symm
        replace hb10 := S22.other hb10 n_b4_b10.symm
        replace hb12 := S22.other hb12 n_b4_b12.symm
        replace hb13 := S22.other hb13 n_b4_b13.symm
        replace hx9 := Xs.set hx9 S22 (by simp)
        replace hb4 : w44.heap[b4]? = some (.cells tm9.cs 35) := S22.new
        replace hR := hR.setF S22 (.inr gb4)
        replace hB := Fr.below hR hB0 hB0.size hSge
        refine .ops0 (.thenN (.region (.load rfl (Ld.ownCell ag77 hb1 rfl) rfl ?_)))
        refine At.buildSlice (xs := [.const (.string (⟨#[41]⟩ : ByteArray))]) rfl rfl el29 sz9 ze9 (by intro v hv; simp only [List.mem_cons, List.not_mem_nil, or_false] at hv; rcases hv with rfl <;> first | rfl | simp [Value.cells]) rfl (by decide) rfl (fun b14 w45 F14 => ?_)
        have n_b0_b14 : b0 ≠ b14 := Nat.ne_of_lt (F14.lt hb0)
        have n_b1_b14 : b1 ≠ b14 := Nat.ne_of_lt (F14.lt hb1)
        have n_b2_b14 : b2 ≠ b14 := Nat.ne_of_lt (F14.lt hb2)
        have n_b3_b14 : b3 ≠ b14 := Nat.ne_of_lt (F14.lt hb3)
        have n_b4_b14 : b4 ≠ b14 := Nat.ne_of_lt (F14.lt hb4)
        have n_b5_b14 : b5 ≠ b14 := Nat.ne_of_lt (F14.lt hb5)
        have n_b6_b14 : b6 ≠ b14 := Nat.ne_of_lt (F14.lt hb6)
        have n_b7_b14 : b7 ≠ b14 := Nat.ne_of_lt (F14.lt hb7)
        have n_b8_b14 : b8 ≠ b14 := Nat.ne_of_lt (F14.lt hb8)
        have n_b10_b14 : b10 ≠ b14 := Nat.ne_of_lt (F14.lt hb10)
        have n_b12_b14 : b12 ≠ b14 := Nat.ne_of_lt (F14.lt hb12)
        have n_b13_b14 : b13 ≠ b14 := Nat.ne_of_lt (F14.lt hb13)
        have gb14 := Nat.le_trans hR.size (Nat.le_of_eq F14.eq.symm)
        replace hb0 := F14.old hb0
        replace hb1 := F14.old hb1
        replace hb2 := F14.old hb2
        replace hb3 := F14.old hb3
        replace hb4 := F14.old hb4
        replace hb5 := F14.old hb5
        replace hb6 := F14.old hb6
        replace hb7 := F14.old hb7
        replace hb8 := F14.old hb8
        replace hb10 := F14.old hb10
        replace hb12 := F14.old hb12
        replace hb13 := F14.old hb13
        replace hx9 := Xs.fresh hx9 F14
        have hb14 : w45.heap[b14]? = some (.cells #[.string (⟨#[41]⟩ : ByteArray)] 9) := F14.new
        replace hR := hR.freshF F14
        replace hB := Fr.below hR hB0 hB0.size hSge
        refine At.callP en65 rfl rfl (ptext_any us9 vr9 (.slice (some ⟨b14, 0, none⟩) 1 1) ([(⟨#[41]⟩ : ByteArray)]) _ hB hSge hts9 hb0 ((StrsAt.own (ss := [(⟨#[41]⟩ : ByteArray)]) hb14 rfl (by decide) : StrsAt _ (.slice (some ⟨b14, 0, none⟩) 1 1) [(⟨#[41]⟩ : ByteArray)])) (fun _ => show b14 ≠ b0 from n_b0_b14.symm)) (fun e wp10 hR' => ?_)
        rcases hR'.cases.symm with ⟨ba, bc, hq10, rfl, hF10, hbb⟩ | ⟨x10, us10, val10, vr10, hq10, rfl, hF10, hts10, hbo10, ho10⟩
        ·exact .inr ⟨_, rfl, (Pk.block (Pk.then (Pk.body (RetP.bad (by simp only [atomP, listOne_eq, failP, SB, hc1, hc2, hc4, hc5, hc6, hc8, hc9, hq9, hq10] <;> rfl) (Fr.then hR hF10 (fun k hk => .inl hk)) hbb))))⟩
        refine .inl ⟨_, rfl, ?_⟩
        replace hb1 := Fr.oldB hF10 hb1 (n_b0_b1.symm)
        replace hb2 := Fr.oldB hF10 hb2 (n_b0_b2.symm)
        replace hb3 := Fr.oldB hF10 hb3 (n_b0_b3.symm)
        replace hb4 := Fr.oldB hF10 hb4 (n_b0_b4.symm)
        replace hb5 := Fr.oldB hF10 hb5 (n_b0_b5.symm)
        replace hb6 := Fr.oldB hF10 hb6 (n_b0_b6.symm)
        replace hb7 := Fr.oldB hF10 hb7 (n_b0_b7.symm)
        replace hb8 := Fr.oldB hF10 hb8 (n_b0_b8.symm)
        replace hb10 := Fr.oldB hF10 hb10 (n_b0_b10.symm)
        replace hb12 := Fr.oldB hF10 hb12 (n_b0_b12.symm)
        replace hb13 := Fr.oldB hF10 hb13 (n_b0_b13.symm)
        replace hb14 := Fr.oldB hF10 hb14 (n_b0_b14.symm)
        replace hx9 := Xs.frS hx9 hF10 (by rintro k rfl; simp)
        replace hb0 := hbo10
        have hsz10 := hR.size
        replace hR := Fr.then hR hF10 (fun k hk => .inl hk)
        replace hB := Fr.below hR hB0 hB0.size hSge
        obtain rfl := ho10
        refine .ops0 (.inN (.thenN (.seq (.region (.load rfl (Ld.own ag35 (sz35.trans (congrArg some ((Xs.one hx9)).size.symm)) hb4) rfl ?_)))))
        refine At.storeAll rfl rfl hb2 (sz35.trans (congrArg some ((Xs.one hx9)).size.symm)) ((Xs.one hx9)).size.symm ((Xs.one hx9)).one (fun w46 S23 => ?_)
        replace hb0 := S23.other hb0 n_b0_b2
        replace hb1 := S23.other hb1 n_b1_b2
        replace hb3 := S23.other hb3 n_b2_b3.symm
        replace hb4 := S23.other hb4 n_b2_b4.symm
        replace hb5 := S23.other hb5 n_b2_b5.symm
        replace hb6 := S23.other hb6 n_b2_b6.symm
        replace hb7 := S23.other hb7 n_b2_b7.symm
        replace hb8 := S23.other hb8 n_b2_b8.symm
        replace hb10 := S23.other hb10 n_b2_b10.symm
        replace hb12 := S23.other hb12 n_b2_b12.symm
        replace hb13 := S23.other hb13 n_b2_b13.symm
        replace hb14 := S23.other hb14 n_b2_b14.symm
        replace hx9 := Xs.set hx9 S23 (by simp)
        replace hb2 : w46.heap[b2]? = some (.cells tm9.cs 35) := S23.new
        replace hR := hR.setF S23 (.inr gb2)
        replace hB := Fr.below hR hB0 hB0.size hSge
        refine .ops0 (.thenN (.retc (.doneR (ResV.cell rfl (Ld.own ag35 (sz35.trans (congrArg some ((Xs.one hx9)).size.symm)) hb2) ResV.nil) ?_)))
        exact RetP.ok (x := x9) (by simp only [atomP, listOne_eq, failP, SB, hc1, hc2, hc4, hc5, hc6, hc8, hc9, hq9, hq10] <;> rfl) hR hts10 hb0 ⟨tm9, rfl, (Xs.one hx9), hmt9⟩
      ·skip
       refine .region (.load rfl (Ld.ownCell ag77 hb1 rfl) rfl ?_)
       refine At.callP en47 rfl rfl (fail_any ts v (α := Unit) (fun _ _ _ => True) _ hB hSge hts hb0) (fun e w' hR' => ?_)
       obtain ⟨rfl, hF11, hbb⟩ := RetP.failed hR'
       exact .inr ⟨_, rfl, (Pk.block (Pk.then (Pk.body (RetP.bad (by simp only [atomP, listOne_eq, failP, SB, hc1, hc2, hc4, hc5, hc6, hc8] <;> rfl) (Fr.then hR hF11 (fun k hk => .inl hk)) hbb))))⟩
theorem app_any {wB : World} {b0 : Nat} {en dp : Int} (ts : List Tk) (v : Value) (ex : List Tk → PR ST) (w : World) (hB0 : Below wB.heap.size wB w) (hSge : ∀ k, k = b0 → wB.heap.size ≤ k) (hts : RowsAt wB v 4 (ts.map Tk.cs)) (hb0 : w.heap[b0]? = some (.cells #[v, .int .i64 en, .int .i64 dp] 81)) (hbig : ts.length ≤ 100000000) (hxs : ∀ ts, (ex ts).Sh ts.length) (hex : ExC en dp ex) :
  Calls Try.prog 104 ([.pointer (some ⟨b0, 0, none⟩)] : List Value).toArray w fun e w' => RetP (fun k => k = b0) wB b0 en dp (okT w) (appP en ex ts) w e w' := by
 have htl := hts.lenL
 have hR := Fr.refl (fun k => k = b0) w
 have hB := hB0
 refine At.enter (N := 26) Try.func104 rfl rfl (by simp) [(0, .pointer (some ⟨b0, 0, none⟩))] (by simp) ?_
 refine .seq (.region ?_)
 refine At.alloc ze35 rfl (fun b1 w1 F1 => ?_)
 have n_b0_b1 : b0 ≠ b1 := Nat.ne_of_lt (F1.lt hb0)
 have gb1 := Nat.le_trans hR.size (Nat.le_of_eq F1.eq.symm)
 replace hb0 := F1.old hb0
 have hb1 : w1.heap[b1]? = some (.cells #[zI, zI, zS, zS, zI, zN, zN, zI, zS, zI, zN, zN, zI, zN, zI, zI, zS, zI, zN, zN, zI] 35) := F1.new
 replace hR := hR.freshF F1
 replace hB := Fr.below hR hB0 hB0.size hSge
 refine .ops0 (.thenN (.seq (.region (.move rfl rfl ?_))))
 have hml1 : MLt w1.heap.size [some b0, some b1] := (MLt.blk hb0 (MLt.blk hb1 (MLt.nil _)))
 refine At.callP en106 rfl rfl (atom_any ts v ex  _ hB hSge hts hb0 (hbig) hxs hex) (fun e wp1 hR' => ?_)
 rcases hR'.cases.symm with ⟨ba, bc, hq1, rfl, hF1, hbb⟩ | ⟨x1, us1, val1, vr1, hq1, rfl, hF1, hts1, hbo1, ho1⟩
 ·exact .inr ⟨_, rfl, (Pk.then (Pk.body (RetP.bad (by simp only [appP, appB, SB, hq1] <;> rfl) (Fr.then hR hF1 (fun k hk => .inl hk)) hbb)))⟩
 refine .inl ⟨_, rfl, ?_⟩
 replace hb1 := Fr.oldB hF1 hb1 (n_b0_b1.symm)
 replace hb0 := hbo1
 have hsz1 := hR.size
 replace hR := Fr.then hR hF1 (fun k hk => .inl hk)
 replace hB := Fr.below hR hB0 hB0.size hSge
 obtain ⟨tm1, rfl, htm1, hmt1⟩ := ho1
 have hx1 := Xs.of_new (B := 0) (M := [some b0, some b1]) (K := kTm) htm1 (fun b hb => .inr (hmt1.blk b hb)) (fun _ _ => Nat.zero_le _) hml1
 replace hmt1 := hmt1.mono hsz1
 refine At.alloc ze35 rfl (fun b2 w2 F2 => ?_)
 have n_b0_b2 : b0 ≠ b2 := Nat.ne_of_lt (F2.lt hb0)
 have n_b1_b2 : b1 ≠ b2 := Nat.ne_of_lt (F2.lt hb1)
 have gb2 := Nat.le_trans hR.size (Nat.le_of_eq F2.eq.symm)
 replace hb0 := F2.old hb0
 replace hb1 := F2.old hb1
 replace hx1 := Xs.fresh hx1 F2
 have hb2 : w2.heap[b2]? = some (.cells #[zI, zI, zS, zS, zI, zN, zN, zI, zS, zI, zN, zN, zI, zN, zI, zI, zS, zI, zN, zN, zI] 35) := F2.new
 replace hR := hR.freshF F2
 replace hB := Fr.below hR hB0 hB0.size hSge
 refine At.storeAll rfl rfl hb2 (sz35.trans (congrArg some ((Xs.one hx1)).size.symm)) ((Xs.one hx1)).size.symm ((Xs.one hx1)).one (fun w3 S1 => ?_)
 replace hb0 := S1.other hb0 n_b0_b2
 replace hb1 := S1.other hb1 n_b1_b2
 replace hx1 := Xs.set hx1 S1 (by simp)
 replace hb2 : w3.heap[b2]? = some (.cells tm1.cs 35) := S1.new
 replace hR := hR.setF S1 (.inr gb2)
 replace hB := Fr.below hR hB0 hB0.size hSge
 refine .ops0 (.thenN (.seq (.block ?_)))
 refine At.loop (List Tk × Value × Nat × Tm × ST) (fun (us, vr, f, tx, xs) => [(0, .pointer (some ⟨b0, 0, none⟩)), (2, .pointer (some ⟨b1, 0, none⟩)), (3, .pointer (some ⟨b2, 0, none⟩))]) (fun (us, vr, f, tx, xs) w4 => Fr (fun k => k = b0) w w4 ∧ w4.heap[b0]? = some (.cells #[vr, .int .i64 en, .int .i64 dp] 81) ∧ w4.heap[b1]? = some (.cells #[zI, zI, zS, zS, zI, zN, zN, zI, zS, zI, zN, zN, zI, zN, zI, zI, zS, zI, zN, zN, zI] 35) ∧ w4.heap[b2]? = some (.cells tx.cs 35) ∧ Xs kTm [some b0, some b1, some b2] w4 [tx] ∧ (RowsAt wB vr 4 (us.map Tk.cs)) ∧ (appP en ex ts = appL en ex f xs us) ∧ (us.length < f) ∧ (MT w xs tx) ∧ (us.length ≤ ts.length)) (fun (us, vr, f, tx, xs) => f) (us1, vr1, (us1.length + 1), tm1, x1) (Sub.cons rfl (Sub.cons rfl (Sub.cons rfl Sub.nil))) ⟨hR, hb0, hb1, hb2, (Xs.weaken (M' := [some b0, some b1, some b2]) hx1 (SubM.cons (.tail _ (.head _)) (SubM.cons (.tail _ (.tail _ (.head _))) (SubM.cons (.head _) SubM.nil)))), (hts1), (by simp only [appP, hq1, PR.bind_ok]), (Nat.lt_succ_self _), (hmt1), (Nat.le_of_lt (PR.Sh.of (atom_sh hxs ts) hq1))⟩ (fun gh w4 hI => ?_)
 obtain ⟨us, vr, f, tx, xs⟩ := gh
 clear hR hB hb0 hb1 hb2 hx1
 obtain ⟨hR, hb0, hb1, hb2, hxx, hus, hs, hfl, hmx, hle⟩ := hI
 have hB := Fr.below hR hB0 hB0.size hSge
 show At _ _ [(0, .pointer (some ⟨b0, 0, none⟩)), (2, .pointer (some ⟨b1, 0, none⟩)), (3, .pointer (some ⟨b2, 0, none⟩))] _ _
 refine .seq (.seq (.region (.move rfl rfl (.nilCheck rfl rfl (.fieldAddr rfl fo81_0 rfl ?_)))))
 refine At.buildSlice (xs := [.const (.int .i64 1), .const (.int .i64 2), .const (.int .i64 3)]) rfl rfl el48 sz3 ze3 (by intro v hv; simp only [List.mem_cons, List.not_mem_nil, or_false] at hv; rcases hv with rfl | rfl | rfl <;> first | rfl | simp [Value.cells]) rfl (by decide) rfl (fun b3 w5 F3 => ?_)
 have n_b0_b3 : b0 ≠ b3 := Nat.ne_of_lt (F3.lt hb0)
 have n_b1_b3 : b1 ≠ b3 := Nat.ne_of_lt (F3.lt hb1)
 have n_b2_b3 : b2 ≠ b3 := Nat.ne_of_lt (F3.lt hb2)
 have gb3 := Nat.le_trans hR.size (Nat.le_of_eq F3.eq.symm)
 replace hb0 := F3.old hb0
 replace hb1 := F3.old hb1
 replace hb2 := F3.old hb2
 replace hxx := Xs.fresh hxx F3
 have hb3 : w5.heap[b3]? = some (.cells #[.int .i64 1, .int .i64 2, .int .i64 3] 3) := F3.new
 replace hR := hR.freshF F3
 replace hB := Fr.below hR hB0 hB0.size hSge
 refine At.call en71 rfl rfl (kind_any us vr (.slice (some ⟨b3, 0, none⟩) 3 3) ([1, 2, 3]) _ ((hus).keep hB) hb0 ((IntsAt.own (l := [1, 2, 3]) hb3 rfl (by decide) : IntsAt _ (.slice (some ⟨b3, 0, none⟩) 3 3) [1, 2, 3]))) (fun e w6 hR' => ?_)
 obtain ⟨rfl, hbl1⟩ := hR'
 refine ⟨_, rfl, ?_⟩
 replace hb0 := Below.old hbl1 hb0
 replace hb1 := Below.old hbl1 hb1
 replace hb2 := Below.old hbl1 hb2
 replace hb3 := Below.old hbl1 hb3
 replace hxx := Xs.below hxx hbl1
 replace hR := hR.callF hbl1
 replace hB := Fr.below hR hB0 hB0.size hSge
 refine .move rfl rfl ?_
 refine At.cases ((kdK en us ([1, 2, 3]))) (fun hg1 => ?_) (fun hg1 => ?_)
 ·skip
  refine .set (d := 11) (u := .bool true) rfl (congrArg Value.bool hg1) (.no rfl rfl rfl rfl rfl rfl rfl (.no rfl rfl rfl rfl rfl rfl rfl (.no rfl rfl rfl rfl rfl rfl rfl (.no rfl rfl rfl rfl rfl rfl rfl (.no rfl rfl rfl rfl rfl rfl rfl (.pickT rfl rfl rfl (.ops0 (.thenN (.condT rfl (.skip (.thenN (.block (.drawG (n := 8) mixed (by kernel_rfl) rfl (PanicOk.block (PanicOk.then (PanicOk.block (PanicOk.then PanicOk.body)))) ?_)))))))))))))
  have hR := Fr.drewF hR
  have hB := Below.drewB hB
  have hb0 : _ := (show w6.drew.heap[b0]? = _ from hb0)
  have hb1 : _ := (show w6.drew.heap[b1]? = _ from hb1)
  have hb2 : _ := (show w6.drew.heap[b2]? = _ from hb2)
  have hb3 : _ := (show w6.drew.heap[b3]? = _ from hb3)
  have hxx := Xs.drew hxx
  refine At.wpcS (i := 0) (d := 18) (.pointer (some ⟨b2, 0 + 1, none⟩)) (by kernel_rfl) rfl rfl rfl (fun Lx => ?_) ?_
  ·skip
   refine .fieldAddr rfl fo35_1 rfl (.ops0 ?_)
   exact fun a ha => ⟨ha, rfl⟩
  refine At.wpcS (i := 1) (d := 19) (.int .i64 tx.at_) (by kernel_rfl) rfl rfl rfl (fun Lx => ?_) ?_
  ·skip
   refine .load rfl (Ld.ownCell ag3 hb2 ((Xs.one hxx)).c1) rfl (.ops0 ?_)
   exact fun a ha => ⟨ha, rfl⟩
  refine At.wpcS (i := 2) (d := 20) (.agg tx.cs) (by kernel_rfl) rfl rfl rfl (fun Lx => ?_) ?_
  ·skip
   refine .load rfl (Ld.own ag35 (sz35.trans (congrArg some ((Xs.one hxx)).size.symm)) hb2) rfl (.ops0 ?_)
   exact fun a ha => ⟨ha, rfl⟩
  refine At.wpcS (i := 3) (d := 21) (.pointer (some ⟨b0, 0, none⟩)) (by kernel_rfl) rfl rfl rfl (fun Lx => ?_) ?_
  ·skip
   refine .move rfl rfl (.ops0 ?_)
   exact fun a ha => ⟨ha, rfl⟩
  refine At.wpcE [4] (by kernel_rfl) (by kernel_rfl) (.cons [0, 1, 2] rfl (by kernel_rfl) ?_ .nil)
  have hml2 : MLt w6.drew.heap.size [some b0, some b1, some b2, some b3] := (MLt.blk hb0 (MLt.blk hb1 (MLt.blk hb2 (MLt.blk hb3 (MLt.nil _)))))
  refine At.callP en106 rfl rfl (atom_any us vr ex  _ hB hSge hus hb0 (by have hz := hbig; have := hle; omega) hxs hex) (fun e wp2 hR' => ?_)
  rcases hR'.cases.symm with ⟨ba, bc, hq2, rfl, hF2, hbb⟩ | ⟨x2, us2, val2, vr2, hq2, rfl, hF2, hts2, hbo2, ho2⟩
  ·exact .inr ⟨_, rfl, (Pk.norm (Pk.block (Pk.then (Pk.block (Pk.then (Pk.body (RetP.bad (by obtain ⟨q, rfl⟩ : ∃ q, f = q + 1 := ⟨f - 1, by omega⟩; rw [hs, appL]; simp only [appP, appB, SB, hg1, hq1, hq2] <;> rfl) (Fr.then hR hF2 (fun k hk => .inl hk)) hbb)))))))⟩
  refine .inl ⟨_, rfl, ?_⟩
  replace hb1 := Fr.oldB hF2 hb1 (n_b0_b1.symm)
  replace hb2 := Fr.oldB hF2 hb2 (n_b0_b2.symm)
  replace hb3 := Fr.oldB hF2 hb3 (n_b0_b3.symm)
  replace hxx := Xs.frS hxx hF2 (by rintro k rfl; simp)
  replace hb0 := hbo2
  have hsz2 := hR.size
  replace hR := Fr.then hR hF2 (fun k hk => .inl hk)
  replace hB := Fr.below hR hB0 hB0.size hSge
  obtain ⟨tm2, rfl, htm2, hmt2⟩ := ho2
  have hx2 := Xs.of_new (B := 0) (M := [some b0, some b1, some b2, some b3]) (K := kTm) htm2 (fun b hb => .inr (hmt2.blk b hb)) (fun _ _ => Nat.zero_le _) hml2
  replace hmt2 := hmt2.mono hsz2
  refine .ops0 ?_
  refine At.wpcN (.cons rfl rfl rfl rfl (fun Lx => ?_) (.cons rfl rfl rfl rfl (fun Lx => ?_) (.cons rfl rfl rfl rfl (fun Lx => ?_) .nil))) ?_
  ·skip
   refine .fieldAddr rfl fo35_1 rfl (.ops0 ?_)
   exact fun a ha => ⟨ha, rfl⟩
  ·skip
   refine .load rfl (Ld.ownCell ag3 hb2 ((Xs.one hxx)).c1) rfl (.ops0 ?_)
   exact fun a ha => ⟨ha, rfl⟩
  ·skip
   refine .load rfl (Ld.own ag35 (sz35.trans (congrArg some ((Xs.one hxx)).size.symm)) hb2) rfl (.ops0 ?_)
   exact fun a ha => ⟨ha, rfl⟩
  refine At.wpcE [5] (by kernel_rfl) (by kernel_rfl) (.cons [0, 1] rfl (by kernel_rfl) ?_ .nil)
  refine At.buildSlice (xs := [.tmp 20, .tmp 22]) rfl rfl el26 sz35 ze35 (by intro v hv; simp only [List.mem_cons, List.not_mem_nil, or_false] at hv; rcases hv with rfl | rfl <;> first | rfl | simp [Value.cells, ((Xs.one hxx)).size, ((Xs.one hx2)).size]) rfl (by decide) rfl (fun b4 w7 F4 => ?_)
  have n_b0_b4 : b0 ≠ b4 := Nat.ne_of_lt (F4.lt hb0)
  have n_b1_b4 : b1 ≠ b4 := Nat.ne_of_lt (F4.lt hb1)
  have n_b2_b4 : b2 ≠ b4 := Nat.ne_of_lt (F4.lt hb2)
  have n_b3_b4 : b3 ≠ b4 := Nat.ne_of_lt (F4.lt hb3)
  have gb4 := Nat.le_trans hR.size (Nat.le_of_eq F4.eq.symm)
  replace hb0 := F4.old hb0
  replace hb1 := F4.old hb1
  replace hb2 := F4.old hb2
  replace hb3 := F4.old hb3
  replace hxx := Xs.fresh hxx F4
  replace hx2 := Xs.fresh hx2 F4
  have hb4 : w7.heap[b4]? = some (.cells (([tx, tm2].map Tm.cs).flatMap (·.toList)).toArray 35) := F4.new
  replace hR := hR.freshF F4
  replace hB := Fr.below hR hB0 hB0.size hSge
  refine .ops0 ?_
  refine At.wpcN (.cons rfl rfl rfl rfl (fun Lx => ?_) (.cons rfl rfl rfl rfl (fun Lx => ?_) .nil)) ?_
  ·skip
   refine .fieldAddr rfl fo35_1 rfl (.ops0 ?_)
   exact fun a ha => ⟨ha, rfl⟩
  ·skip
   refine .load rfl (Ld.ownCell ag3 hb2 ((Xs.one hxx)).c1) rfl (.ops0 ?_)
   exact fun a ha => ⟨ha, rfl⟩
  refine At.wpcS (i := 6) (d := 24) (.agg #[.int .i64 6, .int .i64 tx.at_, zS, zS, zI, (.slice (some ⟨b4, 0, none⟩) 2 2), zN, zI, zS, zI, zN, zN, zI, zN, zI, zI, zS, zI, zN, zN, zI]) (by kernel_rfl) rfl rfl rfl (fun Lx => ?_) ?_
  ·skip
   refine .build (C := #[.int .i64 6, .int .i64 tx.at_, zS, zS, zI, (.slice (some ⟨b4, 0, none⟩) 2 2), zN, zI, zS, zI, zN, zN, zI, zN, zI, zI, zS, zI, zN, zN, zI]) sd35 ze35 rfl (Bld.cons fo35_0 rfl (by first | decide | exact Nat.le_of_ble_eq_true rfl) (Bld.cons fo35_1 rfl (by first | decide | exact Nat.le_of_ble_eq_true rfl) (Bld.cons fo35_5 rfl (by first | decide | exact Nat.le_of_ble_eq_true rfl) (Bld.nil _)))) rfl (.ops0 ?_)
   exact fun a ha => ⟨ha, rfl⟩
  refine At.wpcE [7] (by kernel_rfl) (by kernel_rfl) (.cons [] rfl (by kernel_rfl) ?_ .nil)
  refine At.storeAll rfl rfl hb2 sz35 ((Xs.one hxx)).size (by first | (simp [Value.oneCell', ((SlOk.nil)).one]; done) | (simp only [List.all_toArray, List.all_cons, List.all_nil, ((SlOk.nil)).one, Bool.and_true, Bool.true_and]; rfl)) (fun w8 S2 => ?_)
  replace hb0 := S2.other hb0 n_b0_b2
  replace hb1 := S2.other hb1 n_b1_b2
  replace hb3 := S2.other hb3 n_b2_b3.symm
  replace hb4 := S2.other hb4 n_b2_b4.symm
  replace hxx := Xs.set hxx S2 (by simp)
  replace hx2 := Xs.set hx2 S2 (by simp)
  replace hb2 : w8.heap[b2]? = some (.cells #[.int .i64 6, .int .i64 tx.at_, zS, zS, zI, (.slice (some ⟨b4, 0, none⟩) 2 2), zN, zI, zS, zI, zN, zN, zI, zN, zI, zI, zS, zI, zN, zN, zI] 35) := S2.new
  replace hR := hR.setF S2 (.inr gb2)
  replace hB := Fr.below hR hB0 hB0.size hSge
  refine .ops0 (.wpcN .nil (.wpcZ (.inN (.thenN ?_))))
  exact fun act_ hact_ => ⟨(us2, vr2, (f - 1), (tmA 6 tx.at_ (⟨#[]⟩ : ByteArray) (⟨#[]⟩ : ByteArray) 0 (.slice (some ⟨b4, 0, none⟩) 2 2) [tx, tm2] zN []), (ST.mk 6 xs.at_ (⟨#[]⟩ : ByteArray) (⟨#[]⟩ : ByteArray) 0 [xs, x2] [])), hact_.sub (Sub.cons rfl (Sub.cons rfl (Sub.cons rfl Sub.nil))), ⟨hR, hb0, hb1, hb2, (Xs.mkT (Xs.cons (Xs.weaken (M' := [some b0, some b1, some b2]) hxx (SubM.cons (.tail _ (.tail _ (.head _))) (SubM.cons (.tail _ (.tail _ (.tail _ (.head _)))) (SubM.cons (.tail _ (.tail _ (.tail _ (.tail _ (.head _))))) SubM.nil)))) (Xs.cons (Xs.weaken (M' := [some b0, some b1, some b2]) hx2 (SubM.cons (.tail _ (.head _)) (SubM.cons (.tail _ (.tail _ (.head _))) (SubM.cons (.tail _ (.tail _ (.tail _ (.head _)))) SubM.nil)))) (Xs.nil _ _ _))) (Xs.nil kAm [some b0, some b1, some b2] _) (rows_tm (m := 2) hb4 (mem2 (Q := fun u => TmOk w8 u) (((Xs.one hxx)).keep (Below.refl _ _)) (((Xs.one hx2)).keep (Below.refl _ _))) rfl (by decide)) (RowsAt.nil _ 23) (fun _ => (show some b4 ∉ _ from (NI.cons n_b0_b4 (NI.cons n_b1_b4 (NI.cons n_b2_b4 (NI.nil _)))))) (fun h => absurd rfl h)), (hts2), (by obtain ⟨q, rfl⟩ : ∃ q, f = q + 1 := ⟨f - 1, by omega⟩; rw [hs, appL]; simp only [appB, cond_true, hg1, hq1, hq2, Bool.true_or, Bool.or_true, Bool.false_or, Bool.or_false, PR.bind_ok]; rfl), (by have := hle; have := PR.Sh.of (atom_sh hxs us) hq2; omega), ((MT.atEq (MT.made (k := 6) (a := tx.at_) (nm := (⟨#[]⟩ : ByteArray)) (pm := (⟨#[]⟩ : ByteArray)) (n := 0) (MTL.two hmx hmt2) (MAL.nil w) (fun _ => gb4) (fun h => absurd rfl h)) (shT_at hmx))), (by have := hle; have := PR.Sh.of (atom_sh hxs us) hq2; omega)⟩, by first | omega | (dsimp only; omega)⟩
 ·skip
  refine .set (d := 11) (u := .bool false) rfl (congrArg Value.bool hg1) (.yes rfl rfl rfl rfl (.move rfl rfl (.yes rfl rfl rfl rfl (.nilCheck rfl rfl (.yes rfl rfl rfl rfl (.fieldAddr rfl fo81_0 rfl (.yes rfl rfl rfl rfl ?_)))))))
  refine At.buildSlice (xs := [.const (.string (⟨#[116, 114, 117, 101]⟩ : ByteArray)), .const (.string (⟨#[102, 97, 108, 115, 101]⟩ : ByteArray)), .const (.string (⟨#[40]⟩ : ByteArray)), .const (.string (⟨#[114, 101, 97, 100]⟩ : ByteArray))]) rfl rfl el29 sz9 ze9 (by intro v hv; simp only [List.mem_cons, List.not_mem_nil, or_false] at hv; rcases hv with rfl | rfl | rfl | rfl <;> first | rfl | simp [Value.cells]) rfl (by decide) rfl (fun b5 w9 F5 => ?_)
  have n_b0_b5 : b0 ≠ b5 := Nat.ne_of_lt (F5.lt hb0)
  have n_b1_b5 : b1 ≠ b5 := Nat.ne_of_lt (F5.lt hb1)
  have n_b2_b5 : b2 ≠ b5 := Nat.ne_of_lt (F5.lt hb2)
  have n_b3_b5 : b3 ≠ b5 := Nat.ne_of_lt (F5.lt hb3)
  have gb5 := Nat.le_trans hR.size (Nat.le_of_eq F5.eq.symm)
  replace hb0 := F5.old hb0
  replace hb1 := F5.old hb1
  replace hb2 := F5.old hb2
  replace hb3 := F5.old hb3
  replace hxx := Xs.fresh hxx F5
  have hb5 : w9.heap[b5]? = some (.cells #[.string (⟨#[116, 114, 117, 101]⟩ : ByteArray), .string (⟨#[102, 97, 108, 115, 101]⟩ : ByteArray), .string (⟨#[40]⟩ : ByteArray), .string (⟨#[114, 101, 97, 100]⟩ : ByteArray)] 9) := F5.new
  replace hR := hR.freshF F5
  replace hB := Fr.below hR hB0 hB0.size hSge
  refine .yes rfl rfl rfl rfl ?_
  refine At.call en43 rfl rfl (is_any us vr (.slice (some ⟨b5, 0, none⟩) 4 4) ([(⟨#[116, 114, 117, 101]⟩ : ByteArray), (⟨#[102, 97, 108, 115, 101]⟩ : ByteArray), (⟨#[40]⟩ : ByteArray), (⟨#[114, 101, 97, 100]⟩ : ByteArray)]) _ ((hus).keep hB) hb0 ((StrsAt.own (ss := [(⟨#[116, 114, 117, 101]⟩ : ByteArray), (⟨#[102, 97, 108, 115, 101]⟩ : ByteArray), (⟨#[40]⟩ : ByteArray), (⟨#[114, 101, 97, 100]⟩ : ByteArray)]) hb5 rfl (by decide) : StrsAt _ (.slice (some ⟨b5, 0, none⟩) 4 4) [(⟨#[116, 114, 117, 101]⟩ : ByteArray), (⟨#[102, 97, 108, 115, 101]⟩ : ByteArray), (⟨#[40]⟩ : ByteArray), (⟨#[114, 101, 97, 100]⟩ : ByteArray)]))) (fun e w10 hR' => ?_)
  obtain ⟨rfl, hbl2⟩ := hR'
  refine ⟨_, rfl, ?_⟩
  replace hb0 := Below.old hbl2 hb0
  replace hb1 := Below.old hbl2 hb1
  replace hb2 := Below.old hbl2 hb2
  replace hb3 := Below.old hbl2 hb3
  replace hb5 := Below.old hbl2 hb5
  replace hxx := Xs.below hxx hbl2
  replace hR := hR.callF hbl2
  replace hB := Fr.below hR hB0 hB0.size hSge
  refine .pickF rfl rfl rfl (.ops0 (.thenN ?_))
  refine At.cond (b := (isK en us ([(⟨#[116, 114, 117, 101]⟩ : ByteArray), (⟨#[102, 97, 108, 115, 101]⟩ : ByteArray), (⟨#[40]⟩ : ByteArray), (⟨#[114, 101, 97, 100]⟩ : ByteArray)]))) rfl (fun hc1 => ?_) (fun hc1 => ?_)
  ·skip
   refine .skip (.thenN (.block (.drawG (n := 8) mixed (by kernel_rfl) rfl (PanicOk.block (PanicOk.then (PanicOk.block (PanicOk.then PanicOk.body)))) ?_)))
   have hR := Fr.drewF hR
   have hB := Below.drewB hB
   have hb0 : _ := (show w10.drew.heap[b0]? = _ from hb0)
   have hb1 : _ := (show w10.drew.heap[b1]? = _ from hb1)
   have hb2 : _ := (show w10.drew.heap[b2]? = _ from hb2)
   have hb3 : _ := (show w10.drew.heap[b3]? = _ from hb3)
   have hb5 : _ := (show w10.drew.heap[b5]? = _ from hb5)
   have hxx := Xs.drew hxx
   refine At.wpcS (i := 0) (d := 18) (.pointer (some ⟨b2, 0 + 1, none⟩)) (by kernel_rfl) rfl rfl rfl (fun Lx => ?_) ?_
   ·skip
    refine .fieldAddr rfl fo35_1 rfl (.ops0 ?_)
    exact fun a ha => ⟨ha, rfl⟩
   refine At.wpcS (i := 1) (d := 19) (.int .i64 tx.at_) (by kernel_rfl) rfl rfl rfl (fun Lx => ?_) ?_
   ·skip
    refine .load rfl (Ld.ownCell ag3 hb2 ((Xs.one hxx)).c1) rfl (.ops0 ?_)
    exact fun a ha => ⟨ha, rfl⟩
   refine At.wpcS (i := 2) (d := 20) (.agg tx.cs) (by kernel_rfl) rfl rfl rfl (fun Lx => ?_) ?_
   ·skip
    refine .load rfl (Ld.own ag35 (sz35.trans (congrArg some ((Xs.one hxx)).size.symm)) hb2) rfl (.ops0 ?_)
    exact fun a ha => ⟨ha, rfl⟩
   refine At.wpcS (i := 3) (d := 21) (.pointer (some ⟨b0, 0, none⟩)) (by kernel_rfl) rfl rfl rfl (fun Lx => ?_) ?_
   ·skip
    refine .move rfl rfl (.ops0 ?_)
    exact fun a ha => ⟨ha, rfl⟩
   refine At.wpcE [4] (by kernel_rfl) (by kernel_rfl) (.cons [0, 1, 2] rfl (by kernel_rfl) ?_ .nil)
   have hml3 : MLt w10.drew.heap.size [some b0, some b1, some b2, some b3, some b5] := (MLt.blk hb0 (MLt.blk hb1 (MLt.blk hb2 (MLt.blk hb3 (MLt.blk hb5 (MLt.nil _))))))
   refine At.callP en106 rfl rfl (atom_any us vr ex  _ hB hSge hus hb0 (by have hz := hbig; have := hle; omega) hxs hex) (fun e wp3 hR' => ?_)
   rcases hR'.cases.symm with ⟨ba, bc, hq3, rfl, hF3, hbb⟩ | ⟨x3, us3, val3, vr3, hq3, rfl, hF3, hts3, hbo3, ho3⟩
   ·exact .inr ⟨_, rfl, (Pk.norm (Pk.block (Pk.then (Pk.block (Pk.then (Pk.body (RetP.bad (by obtain ⟨q, rfl⟩ : ∃ q, f = q + 1 := ⟨f - 1, by omega⟩; rw [hs, appL]; simp only [appP, appB, SB, hg1, hc1, hq1, hq3] <;> rfl) (Fr.then hR hF3 (fun k hk => .inl hk)) hbb)))))))⟩
   refine .inl ⟨_, rfl, ?_⟩
   replace hb1 := Fr.oldB hF3 hb1 (n_b0_b1.symm)
   replace hb2 := Fr.oldB hF3 hb2 (n_b0_b2.symm)
   replace hb3 := Fr.oldB hF3 hb3 (n_b0_b3.symm)
   replace hb5 := Fr.oldB hF3 hb5 (n_b0_b5.symm)
   replace hxx := Xs.frS hxx hF3 (by rintro k rfl; simp)
   replace hb0 := hbo3
   have hsz3 := hR.size
   replace hR := Fr.then hR hF3 (fun k hk => .inl hk)
   replace hB := Fr.below hR hB0 hB0.size hSge
   obtain ⟨tm3, rfl, htm3, hmt3⟩ := ho3
   have hx3 := Xs.of_new (B := 0) (M := [some b0, some b1, some b2, some b3, some b5]) (K := kTm) htm3 (fun b hb => .inr (hmt3.blk b hb)) (fun _ _ => Nat.zero_le _) hml3
   replace hmt3 := hmt3.mono hsz3
   refine .ops0 ?_
   refine At.wpcN (.cons rfl rfl rfl rfl (fun Lx => ?_) (.cons rfl rfl rfl rfl (fun Lx => ?_) (.cons rfl rfl rfl rfl (fun Lx => ?_) .nil))) ?_
   ·skip
    refine .fieldAddr rfl fo35_1 rfl (.ops0 ?_)
    exact fun a ha => ⟨ha, rfl⟩
   ·skip
    refine .load rfl (Ld.ownCell ag3 hb2 ((Xs.one hxx)).c1) rfl (.ops0 ?_)
    exact fun a ha => ⟨ha, rfl⟩
   ·skip
    refine .load rfl (Ld.own ag35 (sz35.trans (congrArg some ((Xs.one hxx)).size.symm)) hb2) rfl (.ops0 ?_)
    exact fun a ha => ⟨ha, rfl⟩
   refine At.wpcE [5] (by kernel_rfl) (by kernel_rfl) (.cons [0, 1] rfl (by kernel_rfl) ?_ .nil)
   refine At.buildSlice (xs := [.tmp 20, .tmp 22]) rfl rfl el26 sz35 ze35 (by intro v hv; simp only [List.mem_cons, List.not_mem_nil, or_false] at hv; rcases hv with rfl | rfl <;> first | rfl | simp [Value.cells, ((Xs.one hxx)).size, ((Xs.one hx3)).size]) rfl (by decide) rfl (fun b6 w11 F6 => ?_)
   have n_b0_b6 : b0 ≠ b6 := Nat.ne_of_lt (F6.lt hb0)
   have n_b1_b6 : b1 ≠ b6 := Nat.ne_of_lt (F6.lt hb1)
   have n_b2_b6 : b2 ≠ b6 := Nat.ne_of_lt (F6.lt hb2)
   have n_b3_b6 : b3 ≠ b6 := Nat.ne_of_lt (F6.lt hb3)
   have n_b5_b6 : b5 ≠ b6 := Nat.ne_of_lt (F6.lt hb5)
   have gb6 := Nat.le_trans hR.size (Nat.le_of_eq F6.eq.symm)
   replace hb0 := F6.old hb0
   replace hb1 := F6.old hb1
   replace hb2 := F6.old hb2
   replace hb3 := F6.old hb3
   replace hb5 := F6.old hb5
   replace hxx := Xs.fresh hxx F6
   replace hx3 := Xs.fresh hx3 F6
   have hb6 : w11.heap[b6]? = some (.cells (([tx, tm3].map Tm.cs).flatMap (·.toList)).toArray 35) := F6.new
   replace hR := hR.freshF F6
   replace hB := Fr.below hR hB0 hB0.size hSge
   refine .ops0 ?_
   refine At.wpcN (.cons rfl rfl rfl rfl (fun Lx => ?_) (.cons rfl rfl rfl rfl (fun Lx => ?_) .nil)) ?_
   ·skip
    refine .fieldAddr rfl fo35_1 rfl (.ops0 ?_)
    exact fun a ha => ⟨ha, rfl⟩
   ·skip
    refine .load rfl (Ld.ownCell ag3 hb2 ((Xs.one hxx)).c1) rfl (.ops0 ?_)
    exact fun a ha => ⟨ha, rfl⟩
   refine At.wpcS (i := 6) (d := 24) (.agg #[.int .i64 6, .int .i64 tx.at_, zS, zS, zI, (.slice (some ⟨b6, 0, none⟩) 2 2), zN, zI, zS, zI, zN, zN, zI, zN, zI, zI, zS, zI, zN, zN, zI]) (by kernel_rfl) rfl rfl rfl (fun Lx => ?_) ?_
   ·skip
    refine .build (C := #[.int .i64 6, .int .i64 tx.at_, zS, zS, zI, (.slice (some ⟨b6, 0, none⟩) 2 2), zN, zI, zS, zI, zN, zN, zI, zN, zI, zI, zS, zI, zN, zN, zI]) sd35 ze35 rfl (Bld.cons fo35_0 rfl (by first | decide | exact Nat.le_of_ble_eq_true rfl) (Bld.cons fo35_1 rfl (by first | decide | exact Nat.le_of_ble_eq_true rfl) (Bld.cons fo35_5 rfl (by first | decide | exact Nat.le_of_ble_eq_true rfl) (Bld.nil _)))) rfl (.ops0 ?_)
    exact fun a ha => ⟨ha, rfl⟩
   refine At.wpcE [7] (by kernel_rfl) (by kernel_rfl) (.cons [] rfl (by kernel_rfl) ?_ .nil)
   refine At.storeAll rfl rfl hb2 sz35 ((Xs.one hxx)).size (by first | (simp [Value.oneCell', ((SlOk.nil)).one]; done) | (simp only [List.all_toArray, List.all_cons, List.all_nil, ((SlOk.nil)).one, Bool.and_true, Bool.true_and]; rfl)) (fun w12 S3 => ?_)
   replace hb0 := S3.other hb0 n_b0_b2
   replace hb1 := S3.other hb1 n_b1_b2
   replace hb3 := S3.other hb3 n_b2_b3.symm
   replace hb5 := S3.other hb5 n_b2_b5.symm
   replace hb6 := S3.other hb6 n_b2_b6.symm
   replace hxx := Xs.set hxx S3 (by simp)
   replace hx3 := Xs.set hx3 S3 (by simp)
   replace hb2 : w12.heap[b2]? = some (.cells #[.int .i64 6, .int .i64 tx.at_, zS, zS, zI, (.slice (some ⟨b6, 0, none⟩) 2 2), zN, zI, zS, zI, zN, zN, zI, zN, zI, zI, zS, zI, zN, zN, zI] 35) := S3.new
   replace hR := hR.setF S3 (.inr gb2)
   replace hB := Fr.below hR hB0 hB0.size hSge
   refine .ops0 (.wpcN .nil (.wpcZ (.inN (.thenN ?_))))
   exact fun act_ hact_ => ⟨(us3, vr3, (f - 1), (tmA 6 tx.at_ (⟨#[]⟩ : ByteArray) (⟨#[]⟩ : ByteArray) 0 (.slice (some ⟨b6, 0, none⟩) 2 2) [tx, tm3] zN []), (ST.mk 6 xs.at_ (⟨#[]⟩ : ByteArray) (⟨#[]⟩ : ByteArray) 0 [xs, x3] [])), hact_.sub (Sub.cons rfl (Sub.cons rfl (Sub.cons rfl Sub.nil))), ⟨hR, hb0, hb1, hb2, (Xs.mkT (Xs.cons (Xs.weaken (M' := [some b0, some b1, some b2]) hxx (SubM.cons (.tail _ (.tail _ (.tail _ (.head _)))) (SubM.cons (.tail _ (.tail _ (.tail _ (.tail _ (.head _))))) (SubM.cons (.tail _ (.tail _ (.tail _ (.tail _ (.tail _ (.head _)))))) SubM.nil)))) (Xs.cons (Xs.weaken (M' := [some b0, some b1, some b2]) hx3 (SubM.cons (.tail _ (.head _)) (SubM.cons (.tail _ (.tail _ (.head _))) (SubM.cons (.tail _ (.tail _ (.tail _ (.head _)))) SubM.nil)))) (Xs.nil _ _ _))) (Xs.nil kAm [some b0, some b1, some b2] _) (rows_tm (m := 2) hb6 (mem2 (Q := fun u => TmOk w12 u) (((Xs.one hxx)).keep (Below.refl _ _)) (((Xs.one hx3)).keep (Below.refl _ _))) rfl (by decide)) (RowsAt.nil _ 23) (fun _ => (show some b6 ∉ _ from (NI.cons n_b0_b6 (NI.cons n_b1_b6 (NI.cons n_b2_b6 (NI.nil _)))))) (fun h => absurd rfl h)), (hts3), (by obtain ⟨q, rfl⟩ : ∃ q, f = q + 1 := ⟨f - 1, by omega⟩; rw [hs, appL]; simp only [appB, cond_true, hg1, hc1, hq1, hq3, Bool.true_or, Bool.or_true, Bool.false_or, Bool.or_false, PR.bind_ok]; rfl), (by have := hle; have := PR.Sh.of (atom_sh hxs us) hq3; omega), ((MT.atEq (MT.made (k := 6) (a := tx.at_) (nm := (⟨#[]⟩ : ByteArray)) (pm := (⟨#[]⟩ : ByteArray)) (n := 0) (MTL.two hmx hmt3) (MAL.nil w) (fun _ => gb6) (fun h => absurd rfl h)) (shT_at hmx))), (by have := hle; have := PR.Sh.of (atom_sh hxs us) hq3; omega)⟩, by first | omega | (dsimp only; omega)⟩
  ·skip
   refine .exit (.thenE (.thenE (.inE (.thenN (.seq (.region (.load rfl (Ld.own ag35 (sz35.trans (congrArg some ((Xs.one hxx)).size.symm)) hb2) rfl ?_)))))))
   refine At.storeAll rfl rfl hb1 (sz35.trans (congrArg some ((Xs.one hxx)).size.symm)) ((Xs.one hxx)).size.symm ((Xs.one hxx)).one (fun w13 S4 => ?_)
   replace hb0 := S4.other hb0 n_b0_b1
   replace hb2 := S4.other hb2 n_b1_b2.symm
   replace hb3 := S4.other hb3 n_b1_b3.symm
   replace hb5 := S4.other hb5 n_b1_b5.symm
   replace hxx := Xs.set hxx S4 (by simp)
   replace hb1 : w13.heap[b1]? = some (.cells tx.cs 35) := S4.new
   replace hR := hR.setF S4 (.inr gb1)
   replace hB := Fr.below hR hB0 hB0.size hSge
   refine .ops0 (.thenN (.retc (.doneR (ResV.cell rfl (Ld.own ag35 (sz35.trans (congrArg some ((Xs.one hxx)).size.symm)) hb1) ResV.nil) ?_)))
   exact RetP.ok (x := xs) (by obtain ⟨q, rfl⟩ : ∃ q, f = q + 1 := ⟨f - 1, by omega⟩; rw [hs, appL]; simp only [appP, appB, SB, hg1, hc1, hq1] <;> rfl) hR hus hb0 ⟨tx, rfl, (Xs.one hxx), hmx⟩
end Go.Proofs.Ytkjmjnddanhapaa
