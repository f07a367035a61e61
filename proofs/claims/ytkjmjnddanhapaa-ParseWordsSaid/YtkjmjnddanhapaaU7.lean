/-
 The walk of expressions. Written by a program of ours.
-/
import Derived.Test.YtkjmjnddanhapaaN7
set_option linter.unusedVariables false
set_option linter.unusedSimpArgs false
namespace Go.Proofs.Ytkjmjnddanhapaa
open Go.RowKit
theorem ag27 : aggB Try.prog 27 = some false := by kernel_rfl
theorem by61 : bytesB Try.prog 61 = some 352 := by kernel_rfl
theorem el27 : elemB Try.prog 27 = some 61 := by kernel_rfl
theorem en72 : entB Try.prog 72 = true := by kernel_rfl
theorem en73 : entB Try.prog 73 = true := by kernel_rfl
theorem en76 : entB Try.prog 76 = true := by kernel_rfl
theorem en77 : entB Try.prog 77 = true := by kernel_rfl
theorem en78 : entB Try.prog 78 = true := by kernel_rfl
theorem en79 : entB Try.prog 79 = true := by kernel_rfl
theorem fo35_3 : fieldB Try.prog 35 3 = some (3, 1) := by kernel_rfl
theorem fo35_6 : fieldB Try.prog 35 6 = some (6, 1) := by kernel_rfl
theorem fo81_1 : fieldB Try.prog 81 1 = some (2, 1) := by kernel_rfl
theorem sz27 : sizeB Try.prog 27 = some 1 := by kernel_rfl
theorem expr1_any {b0 bp : Nat} {en d1 : Int} (v : Value) (u : FrameMode) (w : World) (hb0 : w.heap[b0]? = some (.cells #[v, .int .i64 en, .int .i64 d1] 81)) (hbp : w.heap[bp]? = some (.cells #[.pointer (some ⟨b0, 0, none⟩)] 77)) :
  CallsD Try.prog 72 ([.pointer (some ⟨bp, 0, none⟩)] : List Value).toArray u w fun e u' w' => u' = u ∧ ((∃ v, e = .returned v) ∧ (w'.heap[b0]? = some (.cells #[v, .int .i64 en, .int .i64 (IntKind.i64.wrap (d1 - 1))] 81) ∧ Fr (fun k => k = b0) w w')) := by
 have n_b0_bp : b0 ≠ bp := ne_ty hb0 hbp rfl
 have hR := Fr.refl (fun k => k = b0) w
 refine At.enterCD (N := 8) Try.func72 rfl rfl (by simp) [(0, .pointer (some ⟨bp, 0, none⟩))] (by simp) ?_
 refine .region (.load rfl (Ld.ownCell ag77 hbp rfl) rfl (.nilCheck rfl rfl (.fieldAddr rfl fo81_1 rfl (.load rfl (Ld.ownCell ag3 hb0 rfl) rfl (.sub' rfl rfl rfl (.nilCheck rfl rfl (.fieldAddr rfl fo81_1 rfl ?_)))))))
 refine At.store1 rfl rfl hb0 sz3 (by simp) rfl (fun w1 S1 => ?_)
 replace hbp := S1.other hbp n_b0_bp.symm
 replace hb0 : w1.heap[b0]? = some (.cells #[v, .int .i64 en, .int .i64 (IntKind.i64.wrap (d1 - 1))] 81) := S1.new
 replace hR := hR.setF S1 (.inl rfl)
 refine .ops0 (.doneN (ResV.nil) ?_)
 exact ⟨⟨_, rfl⟩, hb0, hR⟩
theorem expr3_any {wB : World} {b0 : Nat} {en dp : Int} (ts : List Tk) (v : Value) (M : List (Option Nat)) (bx bp : Nat) (vo : Value) (es : List Am) (ex : List Tk → PR ST) (k a : Int) (nm pm : ByteArray) (n : Int) (kv : Value) (w : World) (hB0 : Below wB.heap.size wB w) (hSge : ∀ k, (k = b0 ∨ k = bx ∨ some k = vo.ownBlock) → wB.heap.size ≤ k) (hts : RowsAt wB v 4 (ts.map Tk.cs)) (hb0 : w.heap[b0]? = some (.cells #[v, .int .i64 en, .int .i64 dp] 81)) (hbx : w.heap[bx]? = some (.cells #[.int .i64 k, .int .i64 a, .string nm, .string pm, .int .i64 n, kv, vo, zI, zS, zI, zN, zN, zI, zN, zI, zI, zS, zI, zN, zN, zI] 35)) (hbp : w.heap[bp]? = some (.cells #[.pointer (some ⟨b0, 0, none⟩)] 77)) (hO : OwnR 61 23 Am.cs w vo es) (hX : Xs kAm (vo.ownBlock :: some b0 :: some bx :: M) w es) (hMl : MLt w.heap.size M) (hnn : es.length + ts.length ≤ 100000000) (hnx : some bx ≠ vo.ownBlock) (hxs : ∀ ts, (ex ts).Sh ts.length) (hex : ExC en dp ex) :
  Calls Try.prog 76 ([.pointer (some ⟨bx, 0, none⟩), .pointer (some ⟨bp, 0, none⟩)] : List Value).toArray w fun e w' => RetP (fun k => k = b0 ∨ k = bx ∨ some k = vo.ownBlock) wB b0 en dp (GrowOk kAm 61 23 Am.cs MA M (fun v => #[.int .i64 k, .int .i64 a, .string nm, .string pm, .int .i64 n, kv, v, zI, zS, zI, .slice none 0 0, .slice none 0 0, zI, .slice none 0 0, zI, zI, zS, zI, .slice none 0 0, .slice none 0 0, zI]) bx 35 bp b0 77 vo es w) (wayP en ex ts) w e w' := by
 have n_b0_bp : b0 ≠ bp := ne_ty hb0 hbp rfl; have n_b0_bx : b0 ≠ bx := ne_ty hb0 hbx rfl; have n_bp_bx : bp ≠ bx := ne_ty hbp hbx rfl; have geO : ∀ g, Value.ownBlock vo = some g → vo.ownBlock = some g ∨ w.heap.size ≤ g := fun g h => .inl h; have htl := hts.lenL
 have hR := Fr.refl (fun k => k = b0 ∨ k = bx ∨ some k = vo.ownBlock) w
 have hB := hB0
 refine At.enter (N := 11) Try.func76 rfl rfl (by simp) [(0, .pointer (some ⟨bx, 0, none⟩)), (1, .pointer (some ⟨bp, 0, none⟩))] (by simp) ?_
 obtain ⟨u1, hu1⟩ := some_of_lt (l := (es ++ [zeroAm])) (i := es.length) (by first | omega | (simp; done) | (simp; omega))
 refine .drawG (n := 11) mixed (by kernel_rfl) rfl PanicOk.body ?_
 have hR := Fr.drewF hR
 have hB := Below.drewB hB
 have hb0 : _ := (show w.drew.heap[b0]? = _ from hb0)
 have hbp : _ := (show w.drew.heap[bp]? = _ from hbp)
 have hbx : _ := (show w.drew.heap[bx]? = _ from hbx)
 have hO := hO.drew
 have hX := Xs.drew hX
 refine At.wpcS (i := 0) (d := 2) (.pointer (some ⟨bx, 0 + 6, none⟩)) (by kernel_rfl) rfl rfl rfl (fun Lx => ?_) ?_
 ·skip
  refine .fieldAddr rfl fo35_6 rfl (.ops0 ?_)
  exact fun a ha => ⟨ha, rfl⟩
 refine At.wpcS (i := 1) (d := 3) (vo) (by kernel_rfl) rfl rfl rfl (fun Lx => ?_) ?_
 ·skip
  refine .load rfl (Ld.ownCell ag27 hbx rfl) rfl (.ops0 ?_)
  exact fun a ha => ⟨ha, rfl⟩
 refine At.wpcS (i := 2) (d := 4) (.pointer (some ⟨b0, 0, none⟩)) (by kernel_rfl) rfl rfl rfl (fun Lx => ?_) ?_
 ·skip
  refine .load rfl (Ld.ownCell ag77 hbp rfl) rfl (.ops0 ?_)
  exact fun a ha => ⟨ha, rfl⟩
 refine At.wpcS (i := 4) (d := 6) (.int .i64 (es.length : Int)) (by kernel_rfl) rfl rfl rfl (fun Lx => ?_) ?_
 ·skip
  refine .lenSl rfl (Own.slOk hO) el27 rfl (.ops0 ?_)
  exact fun a ha => ⟨ha, rfl⟩
 refine At.wpcE [3, 5] (by kernel_rfl) (by kernel_rfl) (.cons [0, 1, 4] rfl (by kernel_rfl) ?_ (.cons [0, 1, 2, 4] rfl (by kernel_rfl) ?_ .nil))
 ·skip
  have hml1 : MLt w.drew.heap.size (some b0 :: some bp :: some bx :: Value.ownBlock vo :: M) := (MLt.blk hb0 (MLt.blk hbp (MLt.blk hbx (MLt.own hO ((MLt.mono hMl hR.size))))))
  refine At.callP en77 rfl rfl (way_any ts v ex  _ hB (fun k hk => hSge k (.inl hk)) hts hb0 (by have := hnn; omega) hxs hex) (fun e wp1 hR' => ?_)
  rcases hR'.cases.symm with ⟨ba, bc, hq1, rfl, hF1, hbb⟩ | ⟨x1, us1, val1, vr1, hq1, rfl, hF1, hts1, hbo1, ho1⟩
  ·exact .inr ⟨_, rfl, (Pk.norm (Pk.body (RetP.bad (by simp only [SB, hq1] <;> rfl) (Fr.then hR hF1 (fun k hk => .inl (.inl hk))) hbb)))⟩
  refine .inl ⟨_, rfl, ?_⟩
  replace hbp := Fr.oldB hF1 hbp (n_b0_bp.symm)
  replace hbx := Fr.oldB hF1 hbx (n_b0_bx.symm)
  replace hO := OwnR.frB hO hF1 hb0 rfl
  replace hX := Xs.frS hX hF1 (by rintro k rfl; simp)
  replace hb0 := hbo1
  have hsz1 := hR.size
  replace hR := Fr.then hR hF1 (fun k hk => .inl (.inl hk))
  replace hB := Fr.below hR hB0 hB0.size hSge
  obtain ⟨tm1, rfl, htm1, hmt1⟩ := ho1
  have hx1 := Xs.of_new (B := 0) (M := (some b0 :: some bp :: some bx :: Value.ownBlock vo :: M)) (K := kAm) htm1 (fun b hb => .inr (hmt1.blk b hb)) (fun _ _ => Nat.zero_le _) hml1
  replace hmt1 := hmt1.mono hsz1
  refine .ops0 ?_
  refine At.wpcN (.cons rfl rfl rfl rfl (fun Lx => ?_) (.cons rfl rfl rfl rfl (fun Lx => ?_) (.cons rfl rfl rfl rfl (fun Lx => ?_) .nil))) ?_
  ·skip
   refine .fieldAddr rfl fo35_6 rfl (.ops0 ?_)
   exact fun a ha => ⟨ha, rfl⟩
  ·skip
   refine .load rfl (Ld.ownCell ag27 hbx rfl) rfl (.ops0 ?_)
   exact fun a ha => ⟨ha, rfl⟩
  ·skip
   refine .lenSl rfl (Own.slOk hO) el27 rfl (.ops0 ?_)
   exact fun a ha => ⟨ha, rfl⟩
  refine At.wpcE [5] (by kernel_rfl) (by kernel_rfl) (.cons [0, 1, 4] rfl (by kernel_rfl) ?_ .nil)
  refine At.buildSlice (xs := [.const (.agg #[zS, zN, zI, zI, zS, zS, zI, zN, zN, zI, zS, zI, zN, zN, zI, zN, zI, zI, zS, zI, zN, zN, zI])]) rfl rfl el27 sz61 ze61 (by intro v hv; simp only [List.mem_cons, List.not_mem_nil, or_false] at hv; rcases hv with rfl <;> first | rfl | simp [Value.cells, ((zeroAm_ok _)).size]) rfl (by decide) rfl (fun b1 w1 F1 => ?_)
  have q_hO_b1 : some b1 ≠ Value.ownBlock vo := Own.neFresh hO F1
  have n_b0_b1 : b0 ≠ b1 := Nat.ne_of_lt (F1.lt hb0)
  have n_bp_b1 : bp ≠ b1 := Nat.ne_of_lt (F1.lt hbp)
  have n_bx_b1 : bx ≠ b1 := Nat.ne_of_lt (F1.lt hbx)
  have gb1 := Nat.le_trans hR.size (Nat.le_of_eq F1.eq.symm)
  replace hb0 := F1.old hb0
  replace hbp := F1.old hbp
  replace hbx := F1.old hbx
  replace hO := hO.fresh F1
  replace hX := Xs.fresh hX F1
  replace hx1 := Xs.fresh hx1 F1
  have hb1 : w1.heap[b1]? = some (.cells (([zeroAm].map Am.cs).flatMap (·.toList)).toArray 61) := F1.new
  replace hR := hR.freshF F1
  replace hB := Fr.below hR hB0 hB0.size hSge
  refine .ops0 ?_
  refine At.wpcN (.cons rfl rfl rfl rfl (fun Lx => ?_) (.cons rfl rfl rfl rfl (fun Lx => ?_) (.cons rfl rfl rfl rfl (fun Lx => ?_) .nil))) ?_
  ·skip
   refine .fieldAddr rfl fo35_6 rfl (.ops0 ?_)
   exact fun a ha => ⟨ha, rfl⟩
  ·skip
   refine .load rfl (Ld.ownCell ag27 hbx rfl) rfl (.ops0 ?_)
   exact fun a ha => ⟨ha, rfl⟩
  ·skip
   refine .lenSl rfl (Own.slOk hO) el27 rfl (.ops0 ?_)
   exact fun a ha => ⟨ha, rfl⟩
  refine At.wpcE [6] (by kernel_rfl) (by kernel_rfl) (.cons [] rfl (by kernel_rfl) ?_ .nil)
  refine At.appendR (f := Am.cs) rfl rfl el27 el27 sz61 by61 ze61 rfl hO (rows_own (f := Am.cs) (m := 1) hb1 (fun u hu => ((mem1 (Q := fun u => AmOk w1 u) (((zeroAm_ok _)).keep (Below.refl _ _))) u hu).size) rfl (by decide)) (by decide) (fun u hu => (((mem1 (Q := fun u => AmOk w1 u) (((zeroAm_ok _)).keep (Below.refl _ _)))) u hu).one) (by first | omega | (simp; omega)) (by first | omega | (simp; omega)) rfl (fun va1 w2 hO1 hA1 => ?_)
  replace hO1 : OwnR 61 23 Am.cs w2 va1 (es ++ [zeroAm]) := hO1
  replace hb0 := hA1.old hb0 (hO.neT hb0 rfl)
  replace hbp := hA1.old hbp (hO.neT hbp rfl)
  replace hbx := hA1.old hbx (hO.neT hbx rfl)
  clear hb1
  replace hX := Xs.app hX hA1 (.inr (by simp))
  replace hx1 := Xs.app hx1 hA1 (.inr (by simp))
  have ghO1 := AppR.movedTo hA1 hR.size geO
  replace hR := hR.appF hA1 (fun g hg => (geO g hg).imp (fun h => .inr (.inr h.symm)) id)
  replace hB := Fr.below hR hB0 hB0.size hSge
  refine .ops0 (.wpcN .nil ?_)
  refine At.wpcS (i := 7) (d := 9) (.pointer (some ⟨vBlock va1, vOff va1 + es.length * 23, none⟩)) (by kernel_rfl) rfl rfl rfl (fun Lx => ?_) ?_
  ·skip
   refine .indexAddr (i := es.length) rfl rfl (Own.slOk hO1) (lt_of_some hu1) el27 sz61 rfl (.ops0 ?_)
   exact fun a ha => ⟨ha, rfl⟩
  refine At.wpcS (i := 9) (d := 10) (.pointer (some ⟨bx, 0 + 6, none⟩)) (by kernel_rfl) rfl rfl rfl (fun Lx => ?_) ?_
  ·skip
   refine .fieldAddr rfl fo35_6 rfl (.ops0 ?_)
   exact fun a ha => ⟨ha, rfl⟩
  refine At.wpcE [8, 10] (by kernel_rfl) (by kernel_rfl) (.cons [9] rfl (by kernel_rfl) ?_ (.cons [7] rfl (by kernel_rfl) ?_ .nil))
  ·skip
   refine At.storeRow (f := Am.cs) (i := es.length) (off := 0) tm1 rfl rfl hO1 hu1 (fun u hu => (((all_app (Q := fun u => AmOk w2 u) (Xs.ok hX) (mem1 (Q := fun u => AmOk w2 u) (((zeroAm_ok _)).keep (Below.refl _ _))))) u hu).size) (by omega) (sz61.trans (congrArg some ((Xs.one hx1)).size.symm)) (splice_all (((((all_app (Q := fun u => AmOk w2 u) (Xs.ok hX) (mem1 (Q := fun u => AmOk w2 u) (((zeroAm_ok _)).keep (Below.refl _ _))))) u1 (List.mem_of_getElem? hu1))).size.trans ((Xs.one hx1)).size.symm)).symm (by show 0 + tm1.cs.size ≤ 23; rw [((Xs.one hx1)).size]; decide) ((Xs.one hx1)).one (fun w3 hO2 hA2 => ?_)
   replace hb0 := hA2.old hb0 (hO1.neT hb0 rfl)
   replace hbp := hA2.old hbp (hO1.neT hbp rfl)
   replace hbx := hA2.old hbx (hO1.neT hbx rfl)
   replace hX := Xs.app hX hA2 (.inr (by simp))
   replace hx1 := Xs.app hx1 hA2 (.inr (by simp))
   replace hR := hR.appF hA2 (fun g hg => (ghO1 g hg).imp (fun h => .inr (.inr h.symm)) id)
   replace hB := Fr.below hR hB0 hB0.size hSge
   refine .ops0 ?_
   refine At.wpcN (.cons rfl rfl rfl rfl (fun Lx => ?_) .nil) ?_
   ·skip
    refine .fieldAddr rfl fo35_6 rfl (.ops0 ?_)
    exact fun a ha => ⟨ha, rfl⟩
   refine At.wpcE [10] (by kernel_rfl) (by kernel_rfl) (.cons [] rfl (by kernel_rfl) ?_ .nil)
   refine At.store1 rfl rfl hbx sz27 (by simp) (hO2).one (fun w4 S1 => ?_)
   replace hb0 := S1.other hb0 n_b0_bx
   replace hbp := S1.other hbp n_bp_bx
   replace hO2 := hO2.set S1 (hO2.neT hbx rfl)
   replace hX := Xs.set hX S1 (by simp)
   replace hx1 := Xs.set hx1 S1 (by simp)
   replace hbx : w4.heap[bx]? = some (.cells #[.int .i64 k, .int .i64 a, .string nm, .string pm, .int .i64 n, kv, va1, zI, zS, zI, zN, zN, zI, zN, zI, zI, zS, zI, zN, zN, zI] 35) := S1.new
   replace hR := hR.setF S1 (.inl (.inr (.inl rfl)))
   replace hB := Fr.below hR hB0 hB0.size hSge
   refine .ops0 (.wpcN .nil (.wpcZ (.doneN (ResV.nil) ?_)))
   exact RetP.ok (by simp only [SB, hq1] <;> rfl) hR hts1 hb0 ⟨rfl, hbp, _, _, hbx, (by have q := hO2; rw [set_snoc] at q; exact q), Xs.append (Xs.weaken hX (by intro o ho; simp only [List.mem_cons] at ho ⊢; rcases ho with h | h | h | h <;> simp [h])) (Xs.weaken (M' := (Value.ownBlock va1 :: some b0 :: some bx :: M)) hx1 (SubM.cons (.head _) (SubM.cons (.tail _ (.tail _ (.tail _ (.head _)))) (SubM.cons (.tail _ (.tail _ (.tail _ (.tail _ (.tail _ (.head _)))))) (fun o h => (.tail _ (.tail _ (.tail _ (.tail _ (.tail _ (.tail _ (.tail _ h)))))))))))), hmt1, ghO1, hR.size, OwnR.neT hO2 hbx rfl⟩
  ·skip
   refine At.store1 rfl rfl hbx sz27 (by simp) (hO1).one (fun w5 S2 => ?_)
   replace hb0 := S2.other hb0 n_b0_bx
   replace hbp := S2.other hbp n_bp_bx
   replace hO1 := hO1.set S2 (hO1.neT hbx rfl)
   replace hX := Xs.set hX S2 (by simp)
   replace hx1 := Xs.set hx1 S2 (by simp)
   replace hbx : w5.heap[bx]? = some (.cells #[.int .i64 k, .int .i64 a, .string nm, .string pm, .int .i64 n, kv, va1, zI, zS, zI, zN, zN, zI, zN, zI, zI, zS, zI, zN, zN, zI] 35) := S2.new
   replace hR := hR.setF S2 (.inl (.inr (.inl rfl)))
   replace hB := Fr.below hR hB0 hB0.size hSge
   refine .ops0 ?_
   refine At.wpcN (.cons rfl rfl rfl rfl (fun Lx => ?_) .nil) ?_
   ·skip
    refine .indexAddr (i := es.length) rfl rfl (Own.slOk hO1) (lt_of_some hu1) el27 sz61 rfl (.ops0 ?_)
    exact fun a ha => ⟨ha, rfl⟩
   refine At.wpcE [8] (by kernel_rfl) (by kernel_rfl) (.cons [] rfl (by kernel_rfl) ?_ .nil)
   refine At.storeRow (f := Am.cs) (i := es.length) (off := 0) tm1 rfl rfl hO1 hu1 (fun u hu => (((all_app (Q := fun u => AmOk w5 u) (Xs.ok hX) (mem1 (Q := fun u => AmOk w5 u) (((zeroAm_ok _)).keep (Below.refl _ _))))) u hu).size) (by omega) (sz61.trans (congrArg some ((Xs.one hx1)).size.symm)) (splice_all (((((all_app (Q := fun u => AmOk w5 u) (Xs.ok hX) (mem1 (Q := fun u => AmOk w5 u) (((zeroAm_ok _)).keep (Below.refl _ _))))) u1 (List.mem_of_getElem? hu1))).size.trans ((Xs.one hx1)).size.symm)).symm (by show 0 + tm1.cs.size ≤ 23; rw [((Xs.one hx1)).size]; decide) ((Xs.one hx1)).one (fun w6 hO3 hA3 => ?_)
   replace hb0 := hA3.old hb0 (hO1.neT hb0 rfl)
   replace hbp := hA3.old hbp (hO1.neT hbp rfl)
   replace hbx := hA3.old hbx (hO1.neT hbx rfl)
   replace hX := Xs.app hX hA3 (.inr (by simp))
   replace hx1 := Xs.app hx1 hA3 (.inr (by simp))
   replace hR := hR.appF hA3 (fun g hg => (ghO1 g hg).imp (fun h => .inr (.inr h.symm)) id)
   replace hB := Fr.below hR hB0 hB0.size hSge
   refine .ops0 (.wpcN .nil (.wpcZ (.doneN (ResV.nil) ?_)))
   exact RetP.ok (by simp only [SB, hq1] <;> rfl) hR hts1 hb0 ⟨rfl, hbp, _, _, hbx, (by have q := hO3; rw [set_snoc] at q; exact q), Xs.append (Xs.weaken hX (by intro o ho; simp only [List.mem_cons] at ho ⊢; rcases ho with h | h | h | h <;> simp [h])) (Xs.weaken (M' := (Value.ownBlock va1 :: some b0 :: some bx :: M)) hx1 (SubM.cons (.head _) (SubM.cons (.tail _ (.tail _ (.tail _ (.head _)))) (SubM.cons (.tail _ (.tail _ (.tail _ (.tail _ (.tail _ (.head _)))))) (fun o h => (.tail _ (.tail _ (.tail _ (.tail _ (.tail _ (.tail _ (.tail _ h)))))))))))), hmt1, ghO1, hR.size, OwnR.neT hO3 hbx rfl⟩
 ·skip
  refine At.buildSlice (xs := [.const (.agg #[zS, zN, zI, zI, zS, zS, zI, zN, zN, zI, zS, zI, zN, zN, zI, zN, zI, zI, zS, zI, zN, zN, zI])]) rfl rfl el27 sz61 ze61 (by intro v hv; simp only [List.mem_cons, List.not_mem_nil, or_false] at hv; rcases hv with rfl <;> first | rfl | simp [Value.cells, ((zeroAm_ok _)).size]) rfl (by decide) rfl (fun b2 w7 F2 => ?_)
  have q_hO_b2 : some b2 ≠ Value.ownBlock vo := Own.neFresh hO F2
  have n_b0_b2 : b0 ≠ b2 := Nat.ne_of_lt (F2.lt hb0)
  have n_bp_b2 : bp ≠ b2 := Nat.ne_of_lt (F2.lt hbp)
  have n_bx_b2 : bx ≠ b2 := Nat.ne_of_lt (F2.lt hbx)
  have gb2 := Nat.le_trans hR.size (Nat.le_of_eq F2.eq.symm)
  replace hb0 := F2.old hb0
  replace hbp := F2.old hbp
  replace hbx := F2.old hbx
  replace hO := hO.fresh F2
  replace hX := Xs.fresh hX F2
  have hb2 : w7.heap[b2]? = some (.cells (([zeroAm].map Am.cs).flatMap (·.toList)).toArray 61) := F2.new
  replace hR := hR.freshF F2
  replace hB := Fr.below hR hB0 hB0.size hSge
  refine .ops0 ?_
  refine At.wpcN (.cons rfl rfl rfl rfl (fun Lx => ?_) (.cons rfl rfl rfl rfl (fun Lx => ?_) (.cons rfl rfl rfl rfl (fun Lx => ?_) (.cons rfl rfl rfl rfl (fun Lx => ?_) .nil)))) ?_
  ·skip
   refine .fieldAddr rfl fo35_6 rfl (.ops0 ?_)
   exact fun a ha => ⟨ha, rfl⟩
  ·skip
   refine .load rfl (Ld.ownCell ag27 hbx rfl) rfl (.ops0 ?_)
   exact fun a ha => ⟨ha, rfl⟩
  ·skip
   refine .load rfl (Ld.ownCell ag77 hbp rfl) rfl (.ops0 ?_)
   exact fun a ha => ⟨ha, rfl⟩
  ·skip
   refine .lenSl rfl (Own.slOk hO) el27 rfl (.ops0 ?_)
   exact fun a ha => ⟨ha, rfl⟩
  refine At.wpcE [3] (by kernel_rfl) (by kernel_rfl) (.cons [0, 1, 4] rfl (by kernel_rfl) ?_ .nil)
  have hml2 : MLt w7.heap.size (some b0 :: some bp :: some bx :: some b2 :: Value.ownBlock vo :: M) := (MLt.blk hb0 (MLt.blk hbp (MLt.blk hbx (MLt.blk hb2 (MLt.own hO ((MLt.mono hMl hR.size)))))))
  refine At.callP en77 rfl rfl (way_any ts v ex  _ hB (fun k hk => hSge k (.inl hk)) hts hb0 (by have := hnn; omega) hxs hex) (fun e wp2 hR' => ?_)
  rcases hR'.cases.symm with ⟨ba, bc, hq2, rfl, hF2, hbb⟩ | ⟨x2, us2, val2, vr2, hq2, rfl, hF2, hts2, hbo2, ho2⟩
  ·exact .inr ⟨_, rfl, (Pk.norm (Pk.body (RetP.bad (by simp only [SB, hq2] <;> rfl) (Fr.then hR hF2 (fun k hk => .inl (.inl hk))) hbb)))⟩
  refine .inl ⟨_, rfl, ?_⟩
  replace hbp := Fr.oldB hF2 hbp (n_b0_bp.symm)
  replace hbx := Fr.oldB hF2 hbx (n_b0_bx.symm)
  replace hb2 := Fr.oldB hF2 hb2 (n_b0_b2.symm)
  replace hO := OwnR.frB hO hF2 hb0 rfl
  replace hX := Xs.frS hX hF2 (by rintro k rfl; simp)
  replace hb0 := hbo2
  have hsz2 := hR.size
  replace hR := Fr.then hR hF2 (fun k hk => .inl (.inl hk))
  replace hB := Fr.below hR hB0 hB0.size hSge
  obtain ⟨tm2, rfl, htm2, hmt2⟩ := ho2
  have hx2 := Xs.of_new (B := 0) (M := (some b0 :: some bp :: some bx :: some b2 :: Value.ownBlock vo :: M)) (K := kAm) htm2 (fun b hb => .inr (hmt2.blk b hb)) (fun _ _ => Nat.zero_le _) hml2
  replace hmt2 := hmt2.mono hsz2
  refine .ops0 ?_
  refine At.wpcN (.cons rfl rfl rfl rfl (fun Lx => ?_) (.cons rfl rfl rfl rfl (fun Lx => ?_) (.cons rfl rfl rfl rfl (fun Lx => ?_) .nil))) ?_
  ·skip
   refine .fieldAddr rfl fo35_6 rfl (.ops0 ?_)
   exact fun a ha => ⟨ha, rfl⟩
  ·skip
   refine .load rfl (Ld.ownCell ag27 hbx rfl) rfl (.ops0 ?_)
   exact fun a ha => ⟨ha, rfl⟩
  ·skip
   refine .lenSl rfl (Own.slOk hO) el27 rfl (.ops0 ?_)
   exact fun a ha => ⟨ha, rfl⟩
  refine At.wpcE [6] (by kernel_rfl) (by kernel_rfl) (.cons [] rfl (by kernel_rfl) ?_ .nil)
  refine At.appendR (f := Am.cs) rfl rfl el27 el27 sz61 by61 ze61 rfl hO (rows_own (f := Am.cs) (m := 1) hb2 (fun u hu => ((mem1 (Q := fun u => AmOk wp2 u) (((zeroAm_ok _)).keep (Below.refl _ _))) u hu).size) rfl (by decide)) (by decide) (fun u hu => (((mem1 (Q := fun u => AmOk wp2 u) (((zeroAm_ok _)).keep (Below.refl _ _)))) u hu).one) (by first | omega | (simp; omega)) (by first | omega | (simp; omega)) rfl (fun va2 w8 hO4 hA4 => ?_)
  replace hO4 : OwnR 61 23 Am.cs w8 va2 (es ++ [zeroAm]) := hO4
  replace hb0 := hA4.old hb0 (hO.neT hb0 rfl)
  replace hbp := hA4.old hbp (hO.neT hbp rfl)
  replace hbx := hA4.old hbx (hO.neT hbx rfl)
  clear hb2
  replace hX := Xs.app hX hA4 (.inr (by simp))
  replace hx2 := Xs.app hx2 hA4 (.inr (by simp))
  have ghO4 := AppR.movedTo hA4 hR.size geO
  replace hR := hR.appF hA4 (fun g hg => (geO g hg).imp (fun h => .inr (.inr h.symm)) id)
  replace hB := Fr.below hR hB0 hB0.size hSge
  refine .ops0 (.wpcN .nil ?_)
  obtain ⟨u2, hu2⟩ := some_of_lt (l := (es ++ [zeroAm])) (i := es.length) (by first | omega | (simp; done) | (simp; omega))
  refine At.wpcS (i := 7) (d := 9) (.pointer (some ⟨vBlock va2, vOff va2 + es.length * 23, none⟩)) (by kernel_rfl) rfl rfl rfl (fun Lx => ?_) ?_
  ·skip
   refine .indexAddr (i := es.length) rfl rfl (Own.slOk hO4) (lt_of_some hu2) el27 sz61 rfl (.ops0 ?_)
   exact fun a ha => ⟨ha, rfl⟩
  refine At.wpcS (i := 9) (d := 10) (.pointer (some ⟨bx, 0 + 6, none⟩)) (by kernel_rfl) rfl rfl rfl (fun Lx => ?_) ?_
  ·skip
   refine .fieldAddr rfl fo35_6 rfl (.ops0 ?_)
   exact fun a ha => ⟨ha, rfl⟩
  refine At.wpcE [8, 10] (by kernel_rfl) (by kernel_rfl) (.cons [9] rfl (by kernel_rfl) ?_ (.cons [7] rfl (by kernel_rfl) ?_ .nil))
  ·skip
   refine At.storeRow (f := Am.cs) (i := es.length) (off := 0) tm2 rfl rfl hO4 hu2 (fun u hu => (((all_app (Q := fun u => AmOk w8 u) (Xs.ok hX) (mem1 (Q := fun u => AmOk w8 u) (((zeroAm_ok _)).keep (Below.refl _ _))))) u hu).size) (by omega) (sz61.trans (congrArg some ((Xs.one hx2)).size.symm)) (splice_all (((((all_app (Q := fun u => AmOk w8 u) (Xs.ok hX) (mem1 (Q := fun u => AmOk w8 u) (((zeroAm_ok _)).keep (Below.refl _ _))))) u2 (List.mem_of_getElem? hu2))).size.trans ((Xs.one hx2)).size.symm)).symm (by show 0 + tm2.cs.size ≤ 23; rw [((Xs.one hx2)).size]; decide) ((Xs.one hx2)).one (fun w9 hO5 hA5 => ?_)
   replace hb0 := hA5.old hb0 (hO4.neT hb0 rfl)
   replace hbp := hA5.old hbp (hO4.neT hbp rfl)
   replace hbx := hA5.old hbx (hO4.neT hbx rfl)
   replace hX := Xs.app hX hA5 (.inr (by simp))
   replace hx2 := Xs.app hx2 hA5 (.inr (by simp))
   replace hR := hR.appF hA5 (fun g hg => (ghO4 g hg).imp (fun h => .inr (.inr h.symm)) id)
   replace hB := Fr.below hR hB0 hB0.size hSge
   refine .ops0 ?_
   refine At.wpcN (.cons rfl rfl rfl rfl (fun Lx => ?_) .nil) ?_
   ·skip
    refine .fieldAddr rfl fo35_6 rfl (.ops0 ?_)
    exact fun a ha => ⟨ha, rfl⟩
   refine At.wpcE [10] (by kernel_rfl) (by kernel_rfl) (.cons [] rfl (by kernel_rfl) ?_ .nil)
   refine At.store1 rfl rfl hbx sz27 (by simp) (hO5).one (fun w10 S3 => ?_)
   replace hb0 := S3.other hb0 n_b0_bx
   replace hbp := S3.other hbp n_bp_bx
   replace hO5 := hO5.set S3 (hO5.neT hbx rfl)
   replace hX := Xs.set hX S3 (by simp)
   replace hx2 := Xs.set hx2 S3 (by simp)
   replace hbx : w10.heap[bx]? = some (.cells #[.int .i64 k, .int .i64 a, .string nm, .string pm, .int .i64 n, kv, va2, zI, zS, zI, zN, zN, zI, zN, zI, zI, zS, zI, zN, zN, zI] 35) := S3.new
   replace hR := hR.setF S3 (.inl (.inr (.inl rfl)))
   replace hB := Fr.below hR hB0 hB0.size hSge
   refine .ops0 (.wpcN .nil (.wpcZ (.doneN (ResV.nil) ?_)))
   exact RetP.ok (by simp only [SB, hq2] <;> rfl) hR hts2 hb0 ⟨rfl, hbp, _, _, hbx, (by have q := hO5; rw [set_snoc] at q; exact q), Xs.append (Xs.weaken hX (by intro o ho; simp only [List.mem_cons] at ho ⊢; rcases ho with h | h | h | h <;> simp [h])) (Xs.weaken (M' := (Value.ownBlock va2 :: some b0 :: some bx :: M)) hx2 (SubM.cons (.head _) (SubM.cons (.tail _ (.tail _ (.head _))) (SubM.cons (.tail _ (.tail _ (.tail _ (.tail _ (.head _))))) (fun o h => (.tail _ (.tail _ (.tail _ (.tail _ (.tail _ (.tail _ (.tail _ h)))))))))))), hmt2, ghO4, hR.size, OwnR.neT hO5 hbx rfl⟩
  ·skip
   refine At.store1 rfl rfl hbx sz27 (by simp) (hO4).one (fun w11 S4 => ?_)
   replace hb0 := S4.other hb0 n_b0_bx
   replace hbp := S4.other hbp n_bp_bx
   replace hO4 := hO4.set S4 (hO4.neT hbx rfl)
   replace hX := Xs.set hX S4 (by simp)
   replace hx2 := Xs.set hx2 S4 (by simp)
   replace hbx : w11.heap[bx]? = some (.cells #[.int .i64 k, .int .i64 a, .string nm, .string pm, .int .i64 n, kv, va2, zI, zS, zI, zN, zN, zI, zN, zI, zI, zS, zI, zN, zN, zI] 35) := S4.new
   replace hR := hR.setF S4 (.inl (.inr (.inl rfl)))
   replace hB := Fr.below hR hB0 hB0.size hSge
   refine .ops0 ?_
   refine At.wpcN (.cons rfl rfl rfl rfl (fun Lx => ?_) .nil) ?_
   ·skip
    refine .indexAddr (i := es.length) rfl rfl (Own.slOk hO4) (lt_of_some hu2) el27 sz61 rfl (.ops0 ?_)
    exact fun a ha => ⟨ha, rfl⟩
   refine At.wpcE [8] (by kernel_rfl) (by kernel_rfl) (.cons [] rfl (by kernel_rfl) ?_ .nil)
   refine At.storeRow (f := Am.cs) (i := es.length) (off := 0) tm2 rfl rfl hO4 hu2 (fun u hu => (((all_app (Q := fun u => AmOk w11 u) (Xs.ok hX) (mem1 (Q := fun u => AmOk w11 u) (((zeroAm_ok _)).keep (Below.refl _ _))))) u hu).size) (by omega) (sz61.trans (congrArg some ((Xs.one hx2)).size.symm)) (splice_all (((((all_app (Q := fun u => AmOk w11 u) (Xs.ok hX) (mem1 (Q := fun u => AmOk w11 u) (((zeroAm_ok _)).keep (Below.refl _ _))))) u2 (List.mem_of_getElem? hu2))).size.trans ((Xs.one hx2)).size.symm)).symm (by show 0 + tm2.cs.size ≤ 23; rw [((Xs.one hx2)).size]; decide) ((Xs.one hx2)).one (fun w12 hO6 hA6 => ?_)
   replace hb0 := hA6.old hb0 (hO4.neT hb0 rfl)
   replace hbp := hA6.old hbp (hO4.neT hbp rfl)
   replace hbx := hA6.old hbx (hO4.neT hbx rfl)
   replace hX := Xs.app hX hA6 (.inr (by simp))
   replace hx2 := Xs.app hx2 hA6 (.inr (by simp))
   replace hR := hR.appF hA6 (fun g hg => (ghO4 g hg).imp (fun h => .inr (.inr h.symm)) id)
   replace hB := Fr.below hR hB0 hB0.size hSge
   refine .ops0 (.wpcN .nil (.wpcZ (.doneN (ResV.nil) ?_)))
   exact RetP.ok (by simp only [SB, hq2] <;> rfl) hR hts2 hb0 ⟨rfl, hbp, _, _, hbx, (by have q := hO6; rw [set_snoc] at q; exact q), Xs.append (Xs.weaken hX (by intro o ho; simp only [List.mem_cons] at ho ⊢; rcases ho with h | h | h | h <;> simp [h])) (Xs.weaken (M' := (Value.ownBlock va2 :: some b0 :: some bx :: M)) hx2 (SubM.cons (.head _) (SubM.cons (.tail _ (.tail _ (.head _))) (SubM.cons (.tail _ (.tail _ (.tail _ (.tail _ (.head _))))) (fun o h => (.tail _ (.tail _ (.tail _ (.tail _ (.tail _ (.tail _ (.tail _ h)))))))))))), hmt2, ghO4, hR.size, OwnR.neT hO6 hbx rfl⟩
theorem kids_any {wB : World} {b0 : Nat} {en dp : Int} (ts : List Tk) (v : Value) (M : List (Option Nat)) (bx bp : Nat) (k a : Int) (nm pm : ByteArray) (n : Int) (vs : Value) (ss : List ByteArray) (ex : List Tk → PR ST) (w : World) (hB0 : Below wB.heap.size wB w) (hSge : ∀ k, (k = b0 ∨ k = bx) → wB.heap.size ≤ k) (hts : RowsAt wB v 4 (ts.map Tk.cs)) (hb0 : w.heap[b0]? = some (.cells #[v, .int .i64 en, .int .i64 dp] 81)) (hbx : w.heap[bx]? = some (.cells #[.int .i64 k, .int .i64 a, .string nm, .string pm, .int .i64 n, .slice none 0 0, .slice none 0 0, zI, zS, zI, .slice none 0 0, .slice none 0 0, zI, .slice none 0 0, zI, zI, zS, zI, .slice none 0 0, .slice none 0 0, zI] 35)) (hbp : w.heap[bp]? = some (.cells #[.pointer (some ⟨b0, 0, none⟩)] 77)) (hwd : OwnS 9 w vs ss) (hMl : MLt w.heap.size M) (hssl : ss.length ≤ 100) (hbig : ts.length ≤ 100000000) (hxs : ∀ ts, (ex ts).Sh ts.length) (hex : ExC en dp ex) :
  Calls Try.prog 73 ([vs, .pointer (some ⟨bp, 0, none⟩), .pointer (some ⟨bx, 0, none⟩)] : List Value).toArray w fun e w' => RetP (fun k => k = b0 ∨ k = bx) wB b0 en dp (fun xs val w' => val = .tuple #[] ∧ w'.heap[bp]? = some (.cells #[.pointer (some ⟨b0, 0, none⟩)] 77) ∧ ∃ vo es, w'.heap[bx]? = some (.cells #[.int .i64 k, .int .i64 a, .string nm, .string pm, .int .i64 n, vo, .slice none 0 0, zI, zS, zI, .slice none 0 0, .slice none 0 0, zI, .slice none 0 0, zI, zI, zS, zI, .slice none 0 0, .slice none 0 0, zI] 35) ∧ OwnR 35 21 Tm.cs w' vo es ∧ (∀ g, Value.ownBlock vo = some g → w.heap.size ≤ g) ∧ Xs kTm (vo.ownBlock :: some b0 :: some bx :: M) w' es ∧ MTL w xs es ∧ some bx ≠ vo.ownBlock) (kidsP en ex ss [] ts) w e w' := by
 have n_b0_bp : b0 ≠ bp := ne_ty hb0 hbp rfl; have n_b0_bx : b0 ≠ bx := ne_ty hb0 hbx rfl; have n_bp_bx : bp ≠ bx := ne_ty hbp hbx rfl; have htl := hts.lenL
 have hR := Fr.refl (fun k => k = b0 ∨ k = bx) w
 have hB := hB0
 refine At.enter (N := 26) Try.func73 rfl rfl (by simp) [(0, vs), (1, .pointer (some ⟨bp, 0, none⟩)), (2, .pointer (some ⟨bx, 0, none⟩))] (by simp) ?_
 refine .seq (.region (.move rfl rfl (.lenSl rfl (hwd.strs).ok el29 rfl (.move rfl rfl (.ops0 (.thenN (.block ?_)))))))
 refine At.loop (Nat × List Tk × Value × Value × List Tm × List ST) (fun (j, us, vr, vo, es, xs) => [(1, .pointer (some ⟨bp, 0, none⟩)), (2, .pointer (some ⟨bx, 0, none⟩)), (6, vs), (7, .int .i64 (ss.length : Int)), (8, .int .i64 (j : Int))]) (fun (j, us, vr, vo, es, xs) w1 => Fr (fun k => k = b0 ∨ k = bx) w w1 ∧ w1.heap[b0]? = some (.cells #[vr, .int .i64 en, .int .i64 dp] 81) ∧ w1.heap[bp]? = some (.cells #[.pointer (some ⟨b0, 0, none⟩)] 77) ∧ w1.heap[bx]? = some (.cells #[.int .i64 k, .int .i64 a, .string nm, .string pm, .int .i64 n, vo, zN, zI, zS, zI, zN, zN, zI, zN, zI, zI, zS, zI, zN, zN, zI] 35) ∧ OwnS 9 w1 vs ss ∧ OwnR 35 21 Tm.cs w1 vo es ∧ Xs kTm (Value.ownBlock vo :: some b0 :: some bx :: M) w1 es ∧ (j ≤ ss.length) ∧ (RowsAt wB vr 4 (us.map Tk.cs)) ∧ (kidsP en ex ss [] ts = kidsP en ex (ss.drop j) xs us) ∧ (∀ g, Value.ownBlock vo = some g → w.heap.size ≤ g) ∧ (MTL w xs es) ∧ (es.length = j) ∧ (some bx ≠ Value.ownBlock vo) ∧ (us.length ≤ ts.length)) (fun (j, us, vr, vo, es, xs) => ss.length - j) (0, ts, v, zN, [], []) (Sub.cons rfl (Sub.cons rfl (Sub.cons rfl (Sub.cons rfl (Sub.cons rfl Sub.nil))))) ⟨hR, hb0, hbp, hbx, hwd, OwnR.nil 35 21 Tm.cs _, (Xs.nil _ _ _), (Nat.zero_le _), (hts), (rfl), (fun g h => by cases h), (MTL.nil _), (rfl), (fun h => by cases h), (Nat.le_refl _)⟩ (fun gh w1 hI => ?_)
 obtain ⟨j, us, vr, vo, es, xs⟩ := gh
 clear hR hB hb0 hbp hbx hwd
 obtain ⟨hR, hb0, hbp, hbx, hwd, hO, hX, hkb, hus, hs, gOo, hMT, hll, hnx, hle⟩ := hI
 have hB := Fr.below hR hB0 hB0.size hSge
 show At _ _ [(1, .pointer (some ⟨bp, 0, none⟩)), (2, .pointer (some ⟨bx, 0, none⟩)), (6, vs), (7, .int .i64 (ss.length : Int)), (8, .int .i64 (j : Int))] _ _
 refine .seq (.region (.lss rfl rfl rfl (.ops0 (.thenN (.seq ?_)))))
 refine At.cond (b := decide ((j : Int) < (ss.length : Int))) rfl (fun hc1 => ?_) (fun hc1 => ?_)
 ·skip
  have hc1' := of_decide_eq_true hc1
  refine .skip (.thenN (.seq (.block (.seq (.region ?_)))))
  obtain ⟨u1, hu1⟩ := some_of_lt (l := ss) (i := j) (by first | omega | (simp; done) | (simp; omega))
  refine .indexAddr (i := j) rfl rfl (hwd.strs).ok (lt_of_some hu1) el29 sz9 rfl (.load rfl (Ld.cell ag9 (cell_keep ((hwd.strs).get hu1) (Below.refl _ _))) rfl (.assign rfl rfl (.ops0 (.thenN (.seq (.region (.load rfl (Ld.ownCell ag77 hbp rfl) rfl (.move rfl rfl ?_))))))))
  refine At.buildSlice (xs := [.tmp 13]) rfl rfl el29 sz9 ze9 (by intro v hv; simp only [List.mem_cons, List.not_mem_nil, or_false] at hv; rcases hv with rfl <;> first | rfl | simp [Value.cells]) rfl (by decide) rfl (fun b1 w2 F1 => ?_)
  have q_hwd_b1 : some b1 ≠ Value.ownBlock vs := Own.neFresh hwd F1
  have n_b0_b1 : b0 ≠ b1 := Nat.ne_of_lt (F1.lt hb0)
  have n_bp_b1 : bp ≠ b1 := Nat.ne_of_lt (F1.lt hbp)
  have n_bx_b1 : bx ≠ b1 := Nat.ne_of_lt (F1.lt hbx)
  have gb1 := Nat.le_trans hR.size (Nat.le_of_eq F1.eq.symm)
  replace hb0 := F1.old hb0
  replace hbp := F1.old hbp
  replace hbx := F1.old hbx
  replace hwd := hwd.fresh F1
  replace hO := hO.fresh F1
  replace hX := Xs.fresh hX F1
  have hb1 : w2.heap[b1]? = some (.cells #[.string u1] 9) := F1.new
  replace hR := hR.freshF F1
  replace hB := Fr.below hR hB0 hB0.size hSge
  refine At.callP en65 rfl rfl (ptext_any us vr (.slice (some ⟨b1, 0, none⟩) 1 1) ([u1]) _ hB (fun k hk => hSge k (.inl hk)) hus hb0 ((StrsAt.own (ss := [u1]) hb1 rfl (by decide) : StrsAt _ (.slice (some ⟨b1, 0, none⟩) 1 1) [u1])) (fun _ => show b1 ≠ b0 from n_b0_b1.symm)) (fun e wp1 hR' => ?_)
  rcases hR'.cases.symm with ⟨ba, bc, hq1, rfl, hF1, hbb⟩ | ⟨x1, us1, val1, vr1, hq1, rfl, hF1, hts1, hbo1, ho1⟩
  ·exact .inr ⟨_, rfl, (Pk.then (Pk.block (Pk.then (Pk.then (Pk.block (Pk.body (RetP.bad (by rw [hs, drop_cons hu1, kidsP]; simp only [SB, hc1, hq1] <;> rfl) (Fr.then hR hF1 (fun k hk => .inl (.inl hk))) hbb)))))))⟩
  refine .inl ⟨_, rfl, ?_⟩
  replace hbp := Fr.oldB hF1 hbp (n_b0_bp.symm)
  replace hbx := Fr.oldB hF1 hbx (n_b0_bx.symm)
  replace hb1 := Fr.oldB hF1 hb1 (n_b0_b1.symm)
  replace hwd := OwnS.frB hwd hF1 hb0 rfl
  replace hO := OwnR.frB hO hF1 hb0 rfl
  replace hX := Xs.frS hX hF1 (by rintro k rfl; simp)
  replace hb0 := hbo1
  have hsz1 := hR.size
  replace hR := Fr.then hR hF1 (fun k hk => .inl (.inl hk))
  replace hB := Fr.below hR hB0 hB0.size hSge
  obtain rfl := ho1
  refine .ops0 (.thenN ?_)
  obtain ⟨u2, hu2⟩ := some_of_lt (l := (es ++ [zeroTm])) (i := es.length) (by first | omega | (simp; done) | (simp; omega))
  refine .drawG (n := 11) mixed (by kernel_rfl) rfl (PanicOk.block (PanicOk.then (PanicOk.then (PanicOk.block PanicOk.body)))) ?_
  have hR := Fr.drewF hR
  have hB := Below.drewB hB
  have hb0 : _ := (show wp1.drew.heap[b0]? = _ from hb0)
  have hbp : _ := (show wp1.drew.heap[bp]? = _ from hbp)
  have hbx : _ := (show wp1.drew.heap[bx]? = _ from hbx)
  have hb1 : _ := (show wp1.drew.heap[b1]? = _ from hb1)
  have hwd := hwd.drew
  have hO := hO.drew
  have hX := Xs.drew hX
  refine At.wpcS (i := 0) (d := 16) (.pointer (some ⟨bx, 0 + 5, none⟩)) (by kernel_rfl) rfl rfl rfl (fun Lx => ?_) ?_
  ·skip
   refine .fieldAddr rfl fo35_5 rfl (.ops0 ?_)
   exact fun a ha => ⟨ha, rfl⟩
  refine At.wpcS (i := 1) (d := 17) (vo) (by kernel_rfl) rfl rfl rfl (fun Lx => ?_) ?_
  ·skip
   refine .load rfl (Ld.ownCell ag26 hbx rfl) rfl (.ops0 ?_)
   exact fun a ha => ⟨ha, rfl⟩
  refine At.wpcS (i := 2) (d := 18) (.pointer (some ⟨b0, 0, none⟩)) (by kernel_rfl) rfl rfl rfl (fun Lx => ?_) ?_
  ·skip
   refine .load rfl (Ld.ownCell ag77 hbp rfl) rfl (.ops0 ?_)
   exact fun a ha => ⟨ha, rfl⟩
  refine At.wpcS (i := 4) (d := 20) (.int .i64 (es.length : Int)) (by kernel_rfl) rfl rfl rfl (fun Lx => ?_) ?_
  ·skip
   refine .lenSl rfl (Own.slOk hO) el26 rfl (.ops0 ?_)
   exact fun a ha => ⟨ha, rfl⟩
  refine At.wpcE [3, 5] (by kernel_rfl) (by kernel_rfl) (.cons [0, 1, 4] rfl (by kernel_rfl) ?_ (.cons [0, 1, 2, 4] rfl (by kernel_rfl) ?_ .nil))
  ·skip
   have hml2 : MLt wp1.drew.heap.size (some b0 :: some bp :: some bx :: some b1 :: Value.ownBlock vo :: M) := (MLt.blk hb0 (MLt.blk hbp (MLt.blk hbx (MLt.blk hb1 (MLt.own hO ((MLt.mono hMl hR.size)))))))
   refine At.callP en46 rfl rfl (hex wB b0 us1 vr1 _ hB (fun k hk => hSge k (.inl hk)) hts1 hb0 (by have := hle; have := PR.Le.of (text_le en ([u1]) us) hq1; omega)) (fun e wp2 hR' => ?_)
   rcases hR'.cases.symm with ⟨ba, bc, hq2, rfl, hF2, hbb⟩ | ⟨x2, us2, val2, vr2, hq2, rfl, hF2, hts2, hbo2, ho2⟩
   ·exact .inr ⟨_, rfl, (Pk.norm (Pk.block (Pk.then (Pk.then (Pk.block (Pk.body (RetP.bad (by rw [hs, drop_cons hu1, kidsP]; simp only [SB, hc1, hq1, hq2] <;> rfl) (Fr.then hR hF2 (fun k hk => .inl (.inl hk))) hbb)))))))⟩
   refine .inl ⟨_, rfl, ?_⟩
   replace hbp := Fr.oldB hF2 hbp (n_b0_bp.symm)
   replace hbx := Fr.oldB hF2 hbx (n_b0_bx.symm)
   replace hb1 := Fr.oldB hF2 hb1 (n_b0_b1.symm)
   replace hwd := OwnS.frB hwd hF2 hb0 rfl
   replace hO := OwnR.frB hO hF2 hb0 rfl
   replace hX := Xs.frS hX hF2 (by rintro k rfl; simp)
   replace hb0 := hbo2
   have hsz2 := hR.size
   replace hR := Fr.then hR hF2 (fun k hk => .inl (.inl hk))
   replace hB := Fr.below hR hB0 hB0.size hSge
   obtain ⟨tm2, rfl, htm2, hmt2⟩ := ho2
   have hx2 := Xs.of_new (B := 0) (M := (some b0 :: some bp :: some bx :: some b1 :: Value.ownBlock vo :: M)) (K := kTm) htm2 (fun b hb => .inr (hmt2.blk b hb)) (fun _ _ => Nat.zero_le _) hml2
   replace hmt2 := hmt2.mono hsz2
   refine .ops0 ?_
   refine At.wpcN (.cons rfl rfl rfl rfl (fun Lx => ?_) (.cons rfl rfl rfl rfl (fun Lx => ?_) (.cons rfl rfl rfl rfl (fun Lx => ?_) .nil))) ?_
   ·skip
    refine .fieldAddr rfl fo35_5 rfl (.ops0 ?_)
    exact fun a ha => ⟨ha, rfl⟩
   ·skip
    refine .load rfl (Ld.ownCell ag26 hbx rfl) rfl (.ops0 ?_)
    exact fun a ha => ⟨ha, rfl⟩
   ·skip
    refine .lenSl rfl (Own.slOk hO) el26 rfl (.ops0 ?_)
    exact fun a ha => ⟨ha, rfl⟩
   refine At.wpcE [5] (by kernel_rfl) (by kernel_rfl) (.cons [0, 1, 4] rfl (by kernel_rfl) ?_ .nil)
   refine At.buildSlice (xs := [.const (.agg #[zI, zI, zS, zS, zI, zN, zN, zI, zS, zI, zN, zN, zI, zN, zI, zI, zS, zI, zN, zN, zI])]) rfl rfl el26 sz35 ze35 (by intro v hv; simp only [List.mem_cons, List.not_mem_nil, or_false] at hv; rcases hv with rfl <;> first | rfl | simp [Value.cells, ((zeroTm_ok _)).size]) rfl (by decide) rfl (fun b2 w3 F2 => ?_)
   have q_hO_b2 : some b2 ≠ Value.ownBlock vo := Own.neFresh hO F2
   have n_b0_b2 : b0 ≠ b2 := Nat.ne_of_lt (F2.lt hb0)
   have n_bp_b2 : bp ≠ b2 := Nat.ne_of_lt (F2.lt hbp)
   have n_bx_b2 : bx ≠ b2 := Nat.ne_of_lt (F2.lt hbx)
   have n_b1_b2 : b1 ≠ b2 := Nat.ne_of_lt (F2.lt hb1)
   have gb2 := Nat.le_trans hR.size (Nat.le_of_eq F2.eq.symm)
   replace hb0 := F2.old hb0
   replace hbp := F2.old hbp
   replace hbx := F2.old hbx
   replace hb1 := F2.old hb1
   replace hwd := hwd.fresh F2
   replace hO := hO.fresh F2
   replace hX := Xs.fresh hX F2
   replace hx2 := Xs.fresh hx2 F2
   have hb2 : w3.heap[b2]? = some (.cells (([zeroTm].map Tm.cs).flatMap (·.toList)).toArray 35) := F2.new
   replace hR := hR.freshF F2
   replace hB := Fr.below hR hB0 hB0.size hSge
   refine .ops0 ?_
   refine At.wpcN (.cons rfl rfl rfl rfl (fun Lx => ?_) (.cons rfl rfl rfl rfl (fun Lx => ?_) (.cons rfl rfl rfl rfl (fun Lx => ?_) .nil))) ?_
   ·skip
    refine .fieldAddr rfl fo35_5 rfl (.ops0 ?_)
    exact fun a ha => ⟨ha, rfl⟩
   ·skip
    refine .load rfl (Ld.ownCell ag26 hbx rfl) rfl (.ops0 ?_)
    exact fun a ha => ⟨ha, rfl⟩
   ·skip
    refine .lenSl rfl (Own.slOk hO) el26 rfl (.ops0 ?_)
    exact fun a ha => ⟨ha, rfl⟩
   refine At.wpcE [6] (by kernel_rfl) (by kernel_rfl) (.cons [] rfl (by kernel_rfl) ?_ .nil)
   refine At.appendR (f := Tm.cs) rfl rfl el26 el26 sz35 by35 ze35 rfl hO (rows_tm (m := 1) hb2 (mem1 (Q := fun u => TmOk w3 u) (((zeroTm_ok _)).keep (Below.refl _ _))) rfl (by decide)) (by decide) (fun u hu => (((mem1 (Q := fun u => TmOk w3 u) (((zeroTm_ok _)).keep (Below.refl _ _)))) u hu).one) (by first | omega | (simp; omega)) (by first | omega | (simp; omega)) rfl (fun va1 w4 hO1 hA1 => ?_)
   replace hO1 : OwnR 35 21 Tm.cs w4 va1 (es ++ [zeroTm]) := hO1
   replace hb0 := hA1.old hb0 (hO.neT hb0 rfl)
   replace hbp := hA1.old hbp (hO.neT hbp rfl)
   have q_hO1_bx : some bx ≠ Value.ownBlock va1 := Moved.ne hA1.blk (Array.getElem?_eq_some_iff.1 hbx).1 hnx
   replace hbx := hA1.old hbx hnx
   replace hb1 := hA1.old hb1 (hO.neT hb1 rfl)
   clear hb2
   replace hwd := OwnS.keepT hA1 hO hwd rfl
   replace hX := Xs.app hX hA1 (.inr (by simp))
   replace hx2 := Xs.app hx2 hA1 (.inr (by simp))
   have ghO1 := hA1.ge hR.size gOo
   replace hR := hR.appF hA1 (fun g hg => .inr (gOo g hg))
   replace hB := Fr.below hR hB0 hB0.size hSge
   refine .ops0 (.wpcN .nil ?_)
   refine At.wpcS (i := 7) (d := 23) (.pointer (some ⟨vBlock va1, vOff va1 + es.length * 21, none⟩)) (by kernel_rfl) rfl rfl rfl (fun Lx => ?_) ?_
   ·skip
    refine .indexAddr (i := es.length) rfl rfl (Own.slOk hO1) (lt_of_some hu2) el26 sz35 rfl (.ops0 ?_)
    exact fun a ha => ⟨ha, rfl⟩
   refine At.wpcS (i := 9) (d := 24) (.pointer (some ⟨bx, 0 + 5, none⟩)) (by kernel_rfl) rfl rfl rfl (fun Lx => ?_) ?_
   ·skip
    refine .fieldAddr rfl fo35_5 rfl (.ops0 ?_)
    exact fun a ha => ⟨ha, rfl⟩
   refine At.wpcE [8, 10] (by kernel_rfl) (by kernel_rfl) (.cons [9] rfl (by kernel_rfl) ?_ (.cons [7] rfl (by kernel_rfl) ?_ .nil))
   ·skip
    refine At.storeRow (f := Tm.cs) (i := es.length) (off := 0) tm2 rfl rfl hO1 hu2 (fun u hu => (((all_app (Q := fun u => TmOk w4 u) (Xs.ok hX) (mem1 (Q := fun u => TmOk w4 u) (((zeroTm_ok _)).keep (Below.refl _ _))))) u hu).size) (by omega) (sz35.trans (congrArg some ((Xs.one hx2)).size.symm)) (splice_all (((((all_app (Q := fun u => TmOk w4 u) (Xs.ok hX) (mem1 (Q := fun u => TmOk w4 u) (((zeroTm_ok _)).keep (Below.refl _ _))))) u2 (List.mem_of_getElem? hu2))).size.trans ((Xs.one hx2)).size.symm)).symm (by show 0 + tm2.cs.size ≤ 21; rw [((Xs.one hx2)).size]; decide) ((Xs.one hx2)).one (fun w5 hO2 hA2 => ?_)
    replace hb0 := hA2.old hb0 (hO1.neT hb0 rfl)
    replace hbp := hA2.old hbp (hO1.neT hbp rfl)
    replace hbx := hA2.old hbx q_hO1_bx
    replace hb1 := hA2.old hb1 (hO1.neT hb1 rfl)
    replace hwd := OwnS.keepT hA2 hO1 hwd rfl
    replace hX := Xs.app hX hA2 (.inr (by simp))
    replace hx2 := Xs.app hx2 hA2 (.inr (by simp))
    replace hR := hR.appF hA2 (fun g hg => .inr (ghO1 g hg))
    replace hB := Fr.below hR hB0 hB0.size hSge
    refine .ops0 ?_
    refine At.wpcN (.cons rfl rfl rfl rfl (fun Lx => ?_) .nil) ?_
    ·skip
     refine .fieldAddr rfl fo35_5 rfl (.ops0 ?_)
     exact fun a ha => ⟨ha, rfl⟩
    refine At.wpcE [10] (by kernel_rfl) (by kernel_rfl) (.cons [] rfl (by kernel_rfl) ?_ .nil)
    refine At.store1 rfl rfl hbx sz26 (by simp) (hO2).one (fun w6 S1 => ?_)
    replace hb0 := S1.other hb0 n_b0_bx
    replace hbp := S1.other hbp n_bp_bx
    replace hb1 := S1.other hb1 n_bx_b1.symm
    replace hwd := hwd.set S1 (hwd.neT hbx rfl)
    replace hO2 := hO2.set S1 q_hO1_bx
    replace hX := Xs.set hX S1 (by simp)
    replace hx2 := Xs.set hx2 S1 (by simp)
    replace hbx : w6.heap[bx]? = some (.cells #[.int .i64 k, .int .i64 a, .string nm, .string pm, .int .i64 n, va1, zN, zI, zS, zI, zN, zN, zI, zN, zI, zI, zS, zI, zN, zN, zI] 35) := S1.new
    replace hR := hR.setF S1 (.inl (.inr rfl))
    replace hB := Fr.below hR hB0 hB0.size hSge
    refine .ops0 (.wpcN .nil (.wpcZ (.inN (.thenN (.region (.addI rfl rfl rfl (by first | omega | (simp; done) | (simp; omega)) (.move rfl rfl (.ops0 (.thenN ?_)))))))))
    exact fun act_ hact_ => ⟨((j + 1), us2, vr2, va1, (es ++ [tm2]), (xs ++ [x2])), hact_.sub (Sub.cons rfl (Sub.cons rfl (Sub.cons rfl (Sub.cons rfl (Sub.cons rfl Sub.nil))))), ⟨hR, hb0, hbp, hbx, hwd, (by have q := hO2; rw [set_snoc] at q; exact q), (Xs.append (Xs.weaken (M' := (Value.ownBlock va1 :: some b0 :: some bx :: M)) hX (SubM.cons (.head _) (SubM.cons (.tail _ (.tail _ (.tail _ (.tail _ (.tail _ (.head _)))))) (SubM.cons (.tail _ (.tail _ (.tail _ (.tail _ (.tail _ (.tail _ (.head _))))))) (fun o h => (.tail _ (.tail _ (.tail _ (.tail _ (.tail _ (.tail _ (.tail _ h)))))))))))) (Xs.weaken (M' := (Value.ownBlock va1 :: some b0 :: some bx :: M)) hx2 (SubM.cons (.head _) (SubM.cons (.tail _ (.tail _ (.tail _ (.head _)))) (SubM.cons (.tail _ (.tail _ (.tail _ (.tail _ (.tail _ (.head _)))))) (fun o h => (.tail _ (.tail _ (.tail _ (.tail _ (.tail _ (.tail _ (.tail _ (.tail _ h)))))))))))))), (by omega), (hts2), (by rw [hs, drop_cons hu1, kidsP]; simp only [hc1, hq1, hq2, PR.bind_ok]), (ghO1), (MTL.snoc hMT hmt2), (by simp [hll]), (q_hO1_bx), (by have := hle; have := PR.Le.of (text_le en ([u1]) us) hq1; have := PR.Sh.of (hxs us1) hq2; omega)⟩, by first | omega | (dsimp only; omega)⟩
   ·skip
    refine At.store1 rfl rfl hbx sz26 (by simp) (hO1).one (fun w7 S2 => ?_)
    replace hb0 := S2.other hb0 n_b0_bx
    replace hbp := S2.other hbp n_bp_bx
    replace hb1 := S2.other hb1 n_bx_b1.symm
    replace hwd := hwd.set S2 (hwd.neT hbx rfl)
    replace hO1 := hO1.set S2 q_hO1_bx
    replace hX := Xs.set hX S2 (by simp)
    replace hx2 := Xs.set hx2 S2 (by simp)
    replace hbx : w7.heap[bx]? = some (.cells #[.int .i64 k, .int .i64 a, .string nm, .string pm, .int .i64 n, va1, zN, zI, zS, zI, zN, zN, zI, zN, zI, zI, zS, zI, zN, zN, zI] 35) := S2.new
    replace hR := hR.setF S2 (.inl (.inr rfl))
    replace hB := Fr.below hR hB0 hB0.size hSge
    refine .ops0 ?_
    refine At.wpcN (.cons rfl rfl rfl rfl (fun Lx => ?_) .nil) ?_
    ·skip
     refine .indexAddr (i := es.length) rfl rfl (Own.slOk hO1) (lt_of_some hu2) el26 sz35 rfl (.ops0 ?_)
     exact fun a ha => ⟨ha, rfl⟩
    refine At.wpcE [8] (by kernel_rfl) (by kernel_rfl) (.cons [] rfl (by kernel_rfl) ?_ .nil)
    refine At.storeRow (f := Tm.cs) (i := es.length) (off := 0) tm2 rfl rfl hO1 hu2 (fun u hu => (((all_app (Q := fun u => TmOk w7 u) (Xs.ok hX) (mem1 (Q := fun u => TmOk w7 u) (((zeroTm_ok _)).keep (Below.refl _ _))))) u hu).size) (by omega) (sz35.trans (congrArg some ((Xs.one hx2)).size.symm)) (splice_all (((((all_app (Q := fun u => TmOk w7 u) (Xs.ok hX) (mem1 (Q := fun u => TmOk w7 u) (((zeroTm_ok _)).keep (Below.refl _ _))))) u2 (List.mem_of_getElem? hu2))).size.trans ((Xs.one hx2)).size.symm)).symm (by show 0 + tm2.cs.size ≤ 21; rw [((Xs.one hx2)).size]; decide) ((Xs.one hx2)).one (fun w8 hO3 hA3 => ?_)
    replace hb0 := hA3.old hb0 (hO1.neT hb0 rfl)
    replace hbp := hA3.old hbp (hO1.neT hbp rfl)
    replace hbx := hA3.old hbx q_hO1_bx
    replace hb1 := hA3.old hb1 (hO1.neT hb1 rfl)
    replace hwd := OwnS.keepT hA3 hO1 hwd rfl
    replace hX := Xs.app hX hA3 (.inr (by simp))
    replace hx2 := Xs.app hx2 hA3 (.inr (by simp))
    replace hR := hR.appF hA3 (fun g hg => .inr (ghO1 g hg))
    replace hB := Fr.below hR hB0 hB0.size hSge
    refine .ops0 (.wpcN .nil (.wpcZ (.inN (.thenN (.region (.addI rfl rfl rfl (by first | omega | (simp; done) | (simp; omega)) (.move rfl rfl (.ops0 (.thenN ?_)))))))))
    exact fun act_ hact_ => ⟨((j + 1), us2, vr2, va1, (es ++ [tm2]), (xs ++ [x2])), hact_.sub (Sub.cons rfl (Sub.cons rfl (Sub.cons rfl (Sub.cons rfl (Sub.cons rfl Sub.nil))))), ⟨hR, hb0, hbp, hbx, hwd, (by have q := hO3; rw [set_snoc] at q; exact q), (Xs.append (Xs.weaken (M' := (Value.ownBlock va1 :: some b0 :: some bx :: M)) hX (SubM.cons (.head _) (SubM.cons (.tail _ (.tail _ (.tail _ (.tail _ (.tail _ (.head _)))))) (SubM.cons (.tail _ (.tail _ (.tail _ (.tail _ (.tail _ (.tail _ (.head _))))))) (fun o h => (.tail _ (.tail _ (.tail _ (.tail _ (.tail _ (.tail _ (.tail _ h)))))))))))) (Xs.weaken (M' := (Value.ownBlock va1 :: some b0 :: some bx :: M)) hx2 (SubM.cons (.head _) (SubM.cons (.tail _ (.tail _ (.tail _ (.head _)))) (SubM.cons (.tail _ (.tail _ (.tail _ (.tail _ (.tail _ (.head _)))))) (fun o h => (.tail _ (.tail _ (.tail _ (.tail _ (.tail _ (.tail _ (.tail _ (.tail _ h)))))))))))))), (by omega), (hts2), (by rw [hs, drop_cons hu1, kidsP]; simp only [hc1, hq1, hq2, PR.bind_ok]), (ghO1), (MTL.snoc hMT hmt2), (by simp [hll]), (q_hO1_bx), (by have := hle; have := PR.Le.of (text_le en ([u1]) us) hq1; have := PR.Sh.of (hxs us1) hq2; omega)⟩, by first | omega | (dsimp only; omega)⟩
  ·skip
   refine At.buildSlice (xs := [.const (.agg #[zI, zI, zS, zS, zI, zN, zN, zI, zS, zI, zN, zN, zI, zN, zI, zI, zS, zI, zN, zN, zI])]) rfl rfl el26 sz35 ze35 (by intro v hv; simp only [List.mem_cons, List.not_mem_nil, or_false] at hv; rcases hv with rfl <;> first | rfl | simp [Value.cells, ((zeroTm_ok _)).size]) rfl (by decide) rfl (fun b3 w9 F3 => ?_)
   have q_hO_b3 : some b3 ≠ Value.ownBlock vo := Own.neFresh hO F3
   have n_b0_b3 : b0 ≠ b3 := Nat.ne_of_lt (F3.lt hb0)
   have n_bp_b3 : bp ≠ b3 := Nat.ne_of_lt (F3.lt hbp)
   have n_bx_b3 : bx ≠ b3 := Nat.ne_of_lt (F3.lt hbx)
   have n_b1_b3 : b1 ≠ b3 := Nat.ne_of_lt (F3.lt hb1)
   have gb3 := Nat.le_trans hR.size (Nat.le_of_eq F3.eq.symm)
   replace hb0 := F3.old hb0
   replace hbp := F3.old hbp
   replace hbx := F3.old hbx
   replace hb1 := F3.old hb1
   replace hwd := hwd.fresh F3
   replace hO := hO.fresh F3
   replace hX := Xs.fresh hX F3
   have hb3 : w9.heap[b3]? = some (.cells (([zeroTm].map Tm.cs).flatMap (·.toList)).toArray 35) := F3.new
   replace hR := hR.freshF F3
   replace hB := Fr.below hR hB0 hB0.size hSge
   refine .ops0 ?_
   refine At.wpcN (.cons rfl rfl rfl rfl (fun Lx => ?_) (.cons rfl rfl rfl rfl (fun Lx => ?_) (.cons rfl rfl rfl rfl (fun Lx => ?_) (.cons rfl rfl rfl rfl (fun Lx => ?_) .nil)))) ?_
   ·skip
    refine .fieldAddr rfl fo35_5 rfl (.ops0 ?_)
    exact fun a ha => ⟨ha, rfl⟩
   ·skip
    refine .load rfl (Ld.ownCell ag26 hbx rfl) rfl (.ops0 ?_)
    exact fun a ha => ⟨ha, rfl⟩
   ·skip
    refine .load rfl (Ld.ownCell ag77 hbp rfl) rfl (.ops0 ?_)
    exact fun a ha => ⟨ha, rfl⟩
   ·skip
    refine .lenSl rfl (Own.slOk hO) el26 rfl (.ops0 ?_)
    exact fun a ha => ⟨ha, rfl⟩
   refine At.wpcE [3] (by kernel_rfl) (by kernel_rfl) (.cons [0, 1, 4] rfl (by kernel_rfl) ?_ .nil)
   have hml3 : MLt w9.heap.size (some b0 :: some bp :: some bx :: some b1 :: some b3 :: Value.ownBlock vo :: M) := (MLt.blk hb0 (MLt.blk hbp (MLt.blk hbx (MLt.blk hb1 (MLt.blk hb3 (MLt.own hO ((MLt.mono hMl hR.size))))))))
   refine At.callP en46 rfl rfl (hex wB b0 us1 vr1 _ hB (fun k hk => hSge k (.inl hk)) hts1 hb0 (by have := hle; have := PR.Le.of (text_le en ([u1]) us) hq1; omega)) (fun e wp3 hR' => ?_)
   rcases hR'.cases.symm with ⟨ba, bc, hq3, rfl, hF3, hbb⟩ | ⟨x3, us3, val3, vr3, hq3, rfl, hF3, hts3, hbo3, ho3⟩
   ·exact .inr ⟨_, rfl, (Pk.norm (Pk.block (Pk.then (Pk.then (Pk.block (Pk.body (RetP.bad (by rw [hs, drop_cons hu1, kidsP]; simp only [SB, hc1, hq1, hq3] <;> rfl) (Fr.then hR hF3 (fun k hk => .inl (.inl hk))) hbb)))))))⟩
   refine .inl ⟨_, rfl, ?_⟩
   replace hbp := Fr.oldB hF3 hbp (n_b0_bp.symm)
   replace hbx := Fr.oldB hF3 hbx (n_b0_bx.symm)
   replace hb1 := Fr.oldB hF3 hb1 (n_b0_b1.symm)
   replace hb3 := Fr.oldB hF3 hb3 (n_b0_b3.symm)
   replace hwd := OwnS.frB hwd hF3 hb0 rfl
   replace hO := OwnR.frB hO hF3 hb0 rfl
   replace hX := Xs.frS hX hF3 (by rintro k rfl; simp)
   replace hb0 := hbo3
   have hsz3 := hR.size
   replace hR := Fr.then hR hF3 (fun k hk => .inl (.inl hk))
   replace hB := Fr.below hR hB0 hB0.size hSge
   obtain ⟨tm3, rfl, htm3, hmt3⟩ := ho3
   have hx3 := Xs.of_new (B := 0) (M := (some b0 :: some bp :: some bx :: some b1 :: some b3 :: Value.ownBlock vo :: M)) (K := kTm) htm3 (fun b hb => .inr (hmt3.blk b hb)) (fun _ _ => Nat.zero_le _) hml3
   replace hmt3 := hmt3.mono hsz3
   refine .ops0 ?_
   refine At.wpcN (.cons rfl rfl rfl rfl (fun Lx => ?_) (.cons rfl rfl rfl rfl (fun Lx => ?_) (.cons rfl rfl rfl rfl (fun Lx => ?_) .nil))) ?_
   ·skip
    refine .fieldAddr rfl fo35_5 rfl (.ops0 ?_)
    exact fun a ha => ⟨ha, rfl⟩
   ·skip
    refine .load rfl (Ld.ownCell ag26 hbx rfl) rfl (.ops0 ?_)
    exact fun a ha => ⟨ha, rfl⟩
   ·skip
    refine .lenSl rfl (Own.slOk hO) el26 rfl (.ops0 ?_)
    exact fun a ha => ⟨ha, rfl⟩
   refine At.wpcE [6] (by kernel_rfl) (by kernel_rfl) (.cons [] rfl (by kernel_rfl) ?_ .nil)
   refine At.appendR (f := Tm.cs) rfl rfl el26 el26 sz35 by35 ze35 rfl hO (rows_tm (m := 1) hb3 (mem1 (Q := fun u => TmOk wp3 u) (((zeroTm_ok _)).keep (Below.refl _ _))) rfl (by decide)) (by decide) (fun u hu => (((mem1 (Q := fun u => TmOk wp3 u) (((zeroTm_ok _)).keep (Below.refl _ _)))) u hu).one) (by first | omega | (simp; omega)) (by first | omega | (simp; omega)) rfl (fun va2 w10 hO4 hA4 => ?_)
   replace hO4 : OwnR 35 21 Tm.cs w10 va2 (es ++ [zeroTm]) := hO4
   replace hb0 := hA4.old hb0 (hO.neT hb0 rfl)
   replace hbp := hA4.old hbp (hO.neT hbp rfl)
   have q_hO4_bx : some bx ≠ Value.ownBlock va2 := Moved.ne hA4.blk (Array.getElem?_eq_some_iff.1 hbx).1 hnx
   replace hbx := hA4.old hbx hnx
   replace hb1 := hA4.old hb1 (hO.neT hb1 rfl)
   clear hb3
   replace hwd := OwnS.keepT hA4 hO hwd rfl
   replace hX := Xs.app hX hA4 (.inr (by simp))
   replace hx3 := Xs.app hx3 hA4 (.inr (by simp))
   have ghO4 := hA4.ge hR.size gOo
   replace hR := hR.appF hA4 (fun g hg => .inr (gOo g hg))
   replace hB := Fr.below hR hB0 hB0.size hSge
   refine .ops0 (.wpcN .nil ?_)
   obtain ⟨u3, hu3⟩ := some_of_lt (l := (es ++ [zeroTm])) (i := es.length) (by first | omega | (simp; done) | (simp; omega))
   refine At.wpcS (i := 7) (d := 23) (.pointer (some ⟨vBlock va2, vOff va2 + es.length * 21, none⟩)) (by kernel_rfl) rfl rfl rfl (fun Lx => ?_) ?_
   ·skip
    refine .indexAddr (i := es.length) rfl rfl (Own.slOk hO4) (lt_of_some hu3) el26 sz35 rfl (.ops0 ?_)
    exact fun a ha => ⟨ha, rfl⟩
   refine At.wpcS (i := 9) (d := 24) (.pointer (some ⟨bx, 0 + 5, none⟩)) (by kernel_rfl) rfl rfl rfl (fun Lx => ?_) ?_
   ·skip
    refine .fieldAddr rfl fo35_5 rfl (.ops0 ?_)
    exact fun a ha => ⟨ha, rfl⟩
   refine At.wpcE [8, 10] (by kernel_rfl) (by kernel_rfl) (.cons [9] rfl (by kernel_rfl) ?_ (.cons [7] rfl (by kernel_rfl) ?_ .nil))
   ·skip
    refine At.storeRow (f := Tm.cs) (i := es.length) (off := 0) tm3 rfl rfl hO4 hu3 (fun u hu => (((all_app (Q := fun u => TmOk w10 u) (Xs.ok hX) (mem1 (Q := fun u => TmOk w10 u) (((zeroTm_ok _)).keep (Below.refl _ _))))) u hu).size) (by omega) (sz35.trans (congrArg some ((Xs.one hx3)).size.symm)) (splice_all (((((all_app (Q := fun u => TmOk w10 u) (Xs.ok hX) (mem1 (Q := fun u => TmOk w10 u) (((zeroTm_ok _)).keep (Below.refl _ _))))) u3 (List.mem_of_getElem? hu3))).size.trans ((Xs.one hx3)).size.symm)).symm (by show 0 + tm3.cs.size ≤ 21; rw [((Xs.one hx3)).size]; decide) ((Xs.one hx3)).one (fun w11 hO5 hA5 => ?_)
    replace hb0 := hA5.old hb0 (hO4.neT hb0 rfl)
    replace hbp := hA5.old hbp (hO4.neT hbp rfl)
    replace hbx := hA5.old hbx q_hO4_bx
    replace hb1 := hA5.old hb1 (hO4.neT hb1 rfl)
    replace hwd := OwnS.keepT hA5 hO4 hwd rfl
    replace hX := Xs.app hX hA5 (.inr (by simp))
    replace hx3 := Xs.app hx3 hA5 (.inr (by simp))
    replace hR := hR.appF hA5 (fun g hg => .inr (ghO4 g hg))
    replace hB := Fr.below hR hB0 hB0.size hSge
    refine .ops0 ?_
    refine At.wpcN (.cons rfl rfl rfl rfl (fun Lx => ?_) .nil) ?_
    ·skip
     refine .fieldAddr rfl fo35_5 rfl (.ops0 ?_)
     exact fun a ha => ⟨ha, rfl⟩
    refine At.wpcE [10] (by kernel_rfl) (by kernel_rfl) (.cons [] rfl (by kernel_rfl) ?_ .nil)
    refine At.store1 rfl rfl hbx sz26 (by simp) (hO5).one (fun w12 S3 => ?_)
    replace hb0 := S3.other hb0 n_b0_bx
    replace hbp := S3.other hbp n_bp_bx
    replace hb1 := S3.other hb1 n_bx_b1.symm
    replace hwd := hwd.set S3 (hwd.neT hbx rfl)
    replace hO5 := hO5.set S3 q_hO4_bx
    replace hX := Xs.set hX S3 (by simp)
    replace hx3 := Xs.set hx3 S3 (by simp)
    replace hbx : w12.heap[bx]? = some (.cells #[.int .i64 k, .int .i64 a, .string nm, .string pm, .int .i64 n, va2, zN, zI, zS, zI, zN, zN, zI, zN, zI, zI, zS, zI, zN, zN, zI] 35) := S3.new
    replace hR := hR.setF S3 (.inl (.inr rfl))
    replace hB := Fr.below hR hB0 hB0.size hSge
    refine .ops0 (.wpcN .nil (.wpcZ (.inN (.thenN (.region (.addI rfl rfl rfl (by first | omega | (simp; done) | (simp; omega)) (.move rfl rfl (.ops0 (.thenN ?_)))))))))
    exact fun act_ hact_ => ⟨((j + 1), us3, vr3, va2, (es ++ [tm3]), (xs ++ [x3])), hact_.sub (Sub.cons rfl (Sub.cons rfl (Sub.cons rfl (Sub.cons rfl (Sub.cons rfl Sub.nil))))), ⟨hR, hb0, hbp, hbx, hwd, (by have q := hO5; rw [set_snoc] at q; exact q), (Xs.append (Xs.weaken (M' := (Value.ownBlock va2 :: some b0 :: some bx :: M)) hX (SubM.cons (.head _) (SubM.cons (.tail _ (.tail _ (.tail _ (.tail _ (.tail _ (.head _)))))) (SubM.cons (.tail _ (.tail _ (.tail _ (.tail _ (.tail _ (.tail _ (.head _))))))) (fun o h => (.tail _ (.tail _ (.tail _ (.tail _ (.tail _ (.tail _ (.tail _ h)))))))))))) (Xs.weaken (M' := (Value.ownBlock va2 :: some b0 :: some bx :: M)) hx3 (SubM.cons (.head _) (SubM.cons (.tail _ (.tail _ (.head _))) (SubM.cons (.tail _ (.tail _ (.tail _ (.tail _ (.head _))))) (fun o h => (.tail _ (.tail _ (.tail _ (.tail _ (.tail _ (.tail _ (.tail _ (.tail _ h)))))))))))))), (by omega), (hts3), (by rw [hs, drop_cons hu1, kidsP]; simp only [hc1, hq1, hq3, PR.bind_ok]), (ghO4), (MTL.snoc hMT hmt3), (by simp [hll]), (q_hO4_bx), (by have := hle; have := PR.Le.of (text_le en ([u1]) us) hq1; have := PR.Sh.of (hxs us1) hq3; omega)⟩, by first | omega | (dsimp only; omega)⟩
   ·skip
    refine At.store1 rfl rfl hbx sz26 (by simp) (hO4).one (fun w13 S4 => ?_)
    replace hb0 := S4.other hb0 n_b0_bx
    replace hbp := S4.other hbp n_bp_bx
    replace hb1 := S4.other hb1 n_bx_b1.symm
    replace hwd := hwd.set S4 (hwd.neT hbx rfl)
    replace hO4 := hO4.set S4 q_hO4_bx
    replace hX := Xs.set hX S4 (by simp)
    replace hx3 := Xs.set hx3 S4 (by simp)
    replace hbx : w13.heap[bx]? = some (.cells #[.int .i64 k, .int .i64 a, .string nm, .string pm, .int .i64 n, va2, zN, zI, zS, zI, zN, zN, zI, zN, zI, zI, zS, zI, zN, zN, zI] 35) := S4.new
    replace hR := hR.setF S4 (.inl (.inr rfl))
    replace hB := Fr.below hR hB0 hB0.size hSge
    refine .ops0 ?_
    refine At.wpcN (.cons rfl rfl rfl rfl (fun Lx => ?_) .nil) ?_
    ·skip
     refine .indexAddr (i := es.length) rfl rfl (Own.slOk hO4) (lt_of_some hu3) el26 sz35 rfl (.ops0 ?_)
     exact fun a ha => ⟨ha, rfl⟩
    refine At.wpcE [8] (by kernel_rfl) (by kernel_rfl) (.cons [] rfl (by kernel_rfl) ?_ .nil)
    refine At.storeRow (f := Tm.cs) (i := es.length) (off := 0) tm3 rfl rfl hO4 hu3 (fun u hu => (((all_app (Q := fun u => TmOk w13 u) (Xs.ok hX) (mem1 (Q := fun u => TmOk w13 u) (((zeroTm_ok _)).keep (Below.refl _ _))))) u hu).size) (by omega) (sz35.trans (congrArg some ((Xs.one hx3)).size.symm)) (splice_all (((((all_app (Q := fun u => TmOk w13 u) (Xs.ok hX) (mem1 (Q := fun u => TmOk w13 u) (((zeroTm_ok _)).keep (Below.refl _ _))))) u3 (List.mem_of_getElem? hu3))).size.trans ((Xs.one hx3)).size.symm)).symm (by show 0 + tm3.cs.size ≤ 21; rw [((Xs.one hx3)).size]; decide) ((Xs.one hx3)).one (fun w14 hO6 hA6 => ?_)
    replace hb0 := hA6.old hb0 (hO4.neT hb0 rfl)
    replace hbp := hA6.old hbp (hO4.neT hbp rfl)
    replace hbx := hA6.old hbx q_hO4_bx
    replace hb1 := hA6.old hb1 (hO4.neT hb1 rfl)
    replace hwd := OwnS.keepT hA6 hO4 hwd rfl
    replace hX := Xs.app hX hA6 (.inr (by simp))
    replace hx3 := Xs.app hx3 hA6 (.inr (by simp))
    replace hR := hR.appF hA6 (fun g hg => .inr (ghO4 g hg))
    replace hB := Fr.below hR hB0 hB0.size hSge
    refine .ops0 (.wpcN .nil (.wpcZ (.inN (.thenN (.region (.addI rfl rfl rfl (by first | omega | (simp; done) | (simp; omega)) (.move rfl rfl (.ops0 (.thenN ?_)))))))))
    exact fun act_ hact_ => ⟨((j + 1), us3, vr3, va2, (es ++ [tm3]), (xs ++ [x3])), hact_.sub (Sub.cons rfl (Sub.cons rfl (Sub.cons rfl (Sub.cons rfl (Sub.cons rfl Sub.nil))))), ⟨hR, hb0, hbp, hbx, hwd, (by have q := hO6; rw [set_snoc] at q; exact q), (Xs.append (Xs.weaken (M' := (Value.ownBlock va2 :: some b0 :: some bx :: M)) hX (SubM.cons (.head _) (SubM.cons (.tail _ (.tail _ (.tail _ (.tail _ (.tail _ (.head _)))))) (SubM.cons (.tail _ (.tail _ (.tail _ (.tail _ (.tail _ (.tail _ (.head _))))))) (fun o h => (.tail _ (.tail _ (.tail _ (.tail _ (.tail _ (.tail _ (.tail _ h)))))))))))) (Xs.weaken (M' := (Value.ownBlock va2 :: some b0 :: some bx :: M)) hx3 (SubM.cons (.head _) (SubM.cons (.tail _ (.tail _ (.head _))) (SubM.cons (.tail _ (.tail _ (.tail _ (.tail _ (.head _))))) (fun o h => (.tail _ (.tail _ (.tail _ (.tail _ (.tail _ (.tail _ (.tail _ (.tail _ h)))))))))))))), (by omega), (hts3), (by rw [hs, drop_cons hu1, kidsP]; simp only [hc1, hq1, hq3, PR.bind_ok]), (ghO4), (MTL.snoc hMT hmt3), (by simp [hll]), (q_hO4_bx), (by have := hle; have := PR.Le.of (text_le en ([u1]) us) hq1; have := PR.Sh.of (hxs us1) hq3; omega)⟩, by first | omega | (dsimp only; omega)⟩
 ·skip
  have hc1' := of_decide_eq_false hc1
  refine .exit (.thenE (.thenE (.inE (.doneN (ResV.nil) ?_))))
  exact RetP.ok (by rw [hs, List.drop_eq_nil_of_le (by omega), kidsP]) hR hus hb0 ⟨rfl, hbp, vo, es, hbx, hO, gOo, (Xs.weaken (M' := (Value.ownBlock vo :: some b0 :: some bx :: M)) hX (SubM.cons (.head _) (SubM.cons (.tail _ (.head _)) (SubM.cons (.tail _ (.tail _ (.head _))) (fun o h => (.tail _ (.tail _ (.tail _ h)))))))), hMT, hnx⟩
theorem expr_step {wB : World} {b0 : Nat} {en dp : Int} (ts : List Tk) (v : Value) (ex : List Tk → PR ST) (w : World) (hB0 : Below wB.heap.size wB w) (hSge : ∀ k, k = b0 → wB.heap.size ≤ k) (hts : RowsAt wB v 4 (ts.map Tk.cs)) (hb0 : w.heap[b0]? = some (.cells #[v, .int .i64 en, .int .i64 dp] 81)) (hbig : ts.length ≤ 100000000) (hxs : ∀ ts, (ex ts).Sh ts.length) (hd0 : 0 ≤ dp ∧ dp ≤ 201) (hex : dp ≤ 200 → ExC en (dp + 1) ex) :
  Calls Try.prog 46 ([.pointer (some ⟨b0, 0, none⟩)] : List Value).toArray w fun e w' => RetP (fun k => k = b0) wB b0 en dp (okT w) (exprS en dp ex ts) w e w' := by
 have htl := hts.lenL
 have hR := Fr.refl (fun k => k = b0) w
 have hB := hB0
 refine At.enterD (Q := postD1 _ _ 72 _) (N := 165) Try.func46 rfl rfl (by simp) [(0, .pointer (some ⟨b0, 0, none⟩))] (by simp) (postD1.to en72) ?_
 refine .seq (.region ?_)
 refine At.box rfl rfl (fun b1 w1 F1 => ?_)
 have n_b0_b1 : b0 ≠ b1 := Nat.ne_of_lt (F1.lt hb0)
 have gb1 := Nat.le_trans hR.size (Nat.le_of_eq F1.eq.symm)
 replace hb0 := F1.old hb0
 have hb1 : w1.heap[b1]? = some (.cells #[.pointer (some ⟨b0, 0, none⟩)] 77) := F1.new
 replace hR := hR.freshF F1
 replace hB := Fr.below hR hB0 hB0.size hSge
 refine At.alloc ze35 rfl (fun b2 w2 F2 => ?_)
 have n_b0_b2 : b0 ≠ b2 := Nat.ne_of_lt (F2.lt hb0)
 have n_b1_b2 : b1 ≠ b2 := Nat.ne_of_lt (F2.lt hb1)
 have gb2 := Nat.le_trans hR.size (Nat.le_of_eq F2.eq.symm)
 replace hb0 := F2.old hb0
 replace hb1 := F2.old hb1
 have hb2 : w2.heap[b2]? = some (.cells #[zI, zI, zS, zS, zI, zN, zN, zI, zS, zI, zN, zN, zI, zN, zI, zI, zS, zI, zN, zN, zI] 35) := F2.new
 replace hR := hR.freshF F2
 replace hB := Fr.below hR hB0 hB0.size hSge
 refine .ops0 (.thenN (.seq (.region (.load rfl (Ld.ownCell ag77 hb1 rfl) rfl (.nilCheck rfl rfl (.fieldAddr rfl fo81_0 rfl ?_))))))
 refine At.call en63 rfl rfl (next_any ts v _ ((hts).keep hB) hb0) (fun e w3 hR' => ?_)
 obtain ⟨rfl, hbl1⟩ := hR'
 refine ⟨_, rfl, ?_⟩
 replace hb0 := Below.old hbl1 hb0
 replace hb1 := Below.old hbl1 hb1
 replace hb2 := Below.old hbl1 hb2
 replace hR := hR.callF hbl1
 replace hB := Fr.below hR hB0 hB0.size hSge
 refine .fieldC rfl ft47_3 ag3 (((tk_ok (nx en ts))).c3) rfl (.build (C := #[zI, .int .i64 ((nx en ts).a), zS, zS, zI, zN, zN, zI, zS, zI, zN, zN, zI, zN, zI, zI, zS, zI, zN, zN, zI]) sd35 ze35 rfl (Bld.cons fo35_1 rfl (by first | decide | exact Nat.le_of_ble_eq_true rfl) (Bld.nil _)) rfl ?_)
 refine At.alloc ze35 rfl (fun b3 w4 F3 => ?_)
 have n_b0_b3 : b0 ≠ b3 := Nat.ne_of_lt (F3.lt hb0)
 have n_b1_b3 : b1 ≠ b3 := Nat.ne_of_lt (F3.lt hb1)
 have n_b2_b3 : b2 ≠ b3 := Nat.ne_of_lt (F3.lt hb2)
 have gb3 := Nat.le_trans hR.size (Nat.le_of_eq F3.eq.symm)
 replace hb0 := F3.old hb0
 replace hb1 := F3.old hb1
 replace hb2 := F3.old hb2
 have hb3 : w4.heap[b3]? = some (.cells #[zI, zI, zS, zS, zI, zN, zN, zI, zS, zI, zN, zN, zI, zN, zI, zI, zS, zI, zN, zN, zI] 35) := F3.new
 replace hR := hR.freshF F3
 replace hB := Fr.below hR hB0 hB0.size hSge
 refine At.storeAll rfl rfl hb3 sz35 rfl (by first | (simp [Value.oneCell', ((SlOk.nil)).one]; done) | (simp only [List.all_toArray, List.all_cons, List.all_nil, ((SlOk.nil)).one, Bool.and_true, Bool.true_and]; rfl)) (fun w5 S1 => ?_)
 replace hb0 := S1.other hb0 n_b0_b3
 replace hb1 := S1.other hb1 n_b1_b3
 replace hb2 := S1.other hb2 n_b2_b3
 replace hb3 : w5.heap[b3]? = some (.cells #[zI, .int .i64 ((nx en ts).a), zS, zS, zI, zN, zN, zI, zS, zI, zN, zN, zI, zN, zI, zI, zS, zI, zN, zN, zI] 35) := S1.new
 replace hR := hR.setF S1 (.inr gb3)
 replace hB := Fr.below hR hB0 hB0.size hSge
 refine .ops0 (.thenN (.seq (.seq (.region (.load rfl (Ld.ownCell ag77 hb1 rfl) rfl (.nilCheck rfl rfl (.fieldAddr rfl fo81_1 rfl (.load rfl (Ld.ownCell ag3 hb0 rfl) rfl (.gtr rfl rfl rfl (.ops0 (.thenN ?_)))))))))))
 refine At.cond (b := decide (200 < dp)) rfl (fun hc1 => ?_) (fun hc1 => ?_)
 ·skip
  have hc1' := of_decide_eq_true hc1
  refine .region (.fieldAddr rfl fo35_1 rfl (.load rfl (Ld.ownCell ag3 hb3 rfl) rfl (.build (C := #[.int .i64 ((nx en ts).a), .int .i64 6]) sd75 ze75 rfl (Bld.cons fo75_0 rfl (by first | decide | exact Nat.le_of_ble_eq_true rfl) (Bld.cons fo75_1 rfl (by first | decide | exact Nat.le_of_ble_eq_true rfl) (Bld.nil _))) rfl (.iface rfl cc75 rfl (.panicI rfl ?_)))))
  exact (Pk.then (Pk.bodyD0 (RetP.bad (by simp only [exprS, exB, listOne_eq, wayOne_eq, SB, hc1] <;> rfl) hR ⟨_, _, hb0⟩)))
 ·skip
  have hc1' := of_decide_eq_false hc1
  have hdp : dp ≤ 200 := by omega
  refine .skip (.thenN (.seq (.region (.load rfl (Ld.ownCell ag77 hb1 rfl) rfl (.nilCheck rfl rfl (.fieldAddr rfl fo81_1 rfl (.load rfl (Ld.ownCell ag3 hb0 rfl) rfl (.addI rfl rfl rfl (by first | omega | (simp; done) | (simp; omega)) (.nilCheck rfl rfl (.fieldAddr rfl fo81_1 rfl ?_))))))))))
  refine At.store1 rfl rfl hb0 sz3 (by simp) rfl (fun w6 S2 => ?_)
  replace hb1 := S2.other hb1 n_b0_b1.symm
  replace hb2 := S2.other hb2 n_b0_b2.symm
  replace hb3 := S2.other hb3 n_b0_b3.symm
  replace hb0 : w6.heap[b0]? = some (.cells #[v, .int .i64 en, .int .i64 (dp + 1)] 81) := S2.new
  replace hR := hR.setF S2 (.inl rfl)
  replace hB := Fr.below hR hB0 hB0.size hSge
  refine .ops0 (.thenN (.seq (.region (.makeFunc rfl rfl (.deferV rfl (.ops0 (.thenN (.seq (.region (.makeFunc rfl rfl (.assign rfl rfl (.ops0 (.thenN (.seq (.block (.seq (.region (.load rfl (Ld.ownCell ag77 hb1 rfl) rfl (.nilCheck rfl rfl (.fieldAddr rfl fo81_0 rfl ?_))))))))))))))))))))
  refine At.buildSlice (xs := [.const (.string (⟨#[102, 117, 110]⟩ : ByteArray))]) rfl rfl el29 sz9 ze9 (by intro v hv; simp only [List.mem_cons, List.not_mem_nil, or_false] at hv; rcases hv with rfl <;> first | rfl | simp [Value.cells]) rfl (by decide) rfl (fun b4 w7 F4 => ?_)
  have n_b0_b4 : b0 ≠ b4 := Nat.ne_of_lt (F4.lt hb0)
  have n_b1_b4 : b1 ≠ b4 := Nat.ne_of_lt (F4.lt hb1)
  have n_b2_b4 : b2 ≠ b4 := Nat.ne_of_lt (F4.lt hb2)
  have n_b3_b4 : b3 ≠ b4 := Nat.ne_of_lt (F4.lt hb3)
  have gb4 := Nat.le_trans hR.size (Nat.le_of_eq F4.eq.symm)
  replace hb0 := F4.old hb0
  replace hb1 := F4.old hb1
  replace hb2 := F4.old hb2
  replace hb3 := F4.old hb3
  have hb4 : w7.heap[b4]? = some (.cells #[.string (⟨#[102, 117, 110]⟩ : ByteArray)] 9) := F4.new
  replace hR := hR.freshF F4
  replace hB := Fr.below hR hB0 hB0.size hSge
  refine At.call en43 rfl rfl (is_any ts v (.slice (some ⟨b4, 0, none⟩) 1 1) ([(⟨#[102, 117, 110]⟩ : ByteArray)]) _ ((hts).keep hB) hb0 ((StrsAt.own (ss := [(⟨#[102, 117, 110]⟩ : ByteArray)]) hb4 rfl (by decide) : StrsAt _ (.slice (some ⟨b4, 0, none⟩) 1 1) [(⟨#[102, 117, 110]⟩ : ByteArray)]))) (fun e w8 hR' => ?_)
  obtain ⟨rfl, hbl2⟩ := hR'
  refine ⟨_, rfl, ?_⟩
  replace hb0 := Below.old hbl2 hb0
  replace hb1 := Below.old hbl2 hb1
  replace hb2 := Below.old hbl2 hb2
  replace hb3 := Below.old hbl2 hb3
  replace hb4 := Below.old hbl2 hb4
  replace hR := hR.callF hbl2
  replace hB := Fr.below hR hB0 hB0.size hSge
  refine .assign rfl rfl (.ops0 (.thenN ?_))
  refine At.cond (b := (isK en ts ([(⟨#[102, 117, 110]⟩ : ByteArray)]))) rfl (fun hc2 => ?_) (fun hc2 => ?_)
  ·skip
   refine .seq (.region (.load rfl (Ld.ownCell ag77 hb1 rfl) rfl (.nilCheck rfl rfl (.fieldAddr rfl fo81_0 rfl ?_))))
   refine At.call en74 rfl rfl (ptake_any ts v _ hB hSge hts hb0 (is_len hc2)) (fun e wp1 hR' => ?_)
   obtain ⟨vr1, rfl, hts1, hbo1, hF1⟩ := hR'
   refine ⟨_, rfl, ?_⟩
   replace hb1 := Fr.oldB hF1 hb1 (n_b0_b1.symm)
   replace hb2 := Fr.oldB hF1 hb2 (n_b0_b2.symm)
   replace hb3 := Fr.oldB hF1 hb3 (n_b0_b3.symm)
   replace hb4 := Fr.oldB hF1 hb4 (n_b0_b4.symm)
   replace hb0 := hbo1
   replace hR := Fr.then hR hF1 (fun k hk => .inl hk)
   replace hB := Fr.below hR hB0 hB0.size hSge
   refine .ops0 (.thenN (.seq (.drawG (n := 8) mixed (by kernel_rfl) rfl (PanicOk.then (PanicOk.block (PanicOk.then PanicOk.bodyD1))) ?_)))
   have hR := Fr.drewF hR
   have hB := Below.drewB hB
   have hb0 : _ := (show wp1.drew.heap[b0]? = _ from hb0)
   have hb1 : _ := (show wp1.drew.heap[b1]? = _ from hb1)
   have hb2 : _ := (show wp1.drew.heap[b2]? = _ from hb2)
   have hb3 : _ := (show wp1.drew.heap[b3]? = _ from hb3)
   have hb4 : _ := (show wp1.drew.heap[b4]? = _ from hb4)
   refine At.wpcS (i := 0) (d := 42) (.pointer (some ⟨b0, 0, none⟩)) (by kernel_rfl) rfl rfl rfl (fun Lx => ?_) ?_
   ·skip
    refine .load rfl (Ld.ownCell ag77 hb1 rfl) rfl (.ops0 ?_)
    exact fun a ha => ⟨ha, rfl⟩
   refine At.wpcS (i := 4) (d := 46) (.pointer (some ⟨b3, 0 + 0, none⟩)) (by kernel_rfl) rfl rfl rfl (fun Lx => ?_) ?_
   ·skip
    refine .fieldAddr rfl fo35_0 rfl (.ops0 ?_)
    exact fun a ha => ⟨ha, rfl⟩
   refine At.wpcE [1] (by kernel_rfl) (by kernel_rfl) (.cons [4] rfl (by kernel_rfl) ?_ .nil)
   refine At.callP en75 rfl rfl (names_any ts.tail vr1 1 _ hB hSge hts1 hb0 (by decide)) (fun e wp2 hR' => ?_)
   rcases hR'.cases.symm with ⟨ba, bc, hq2, rfl, hF2, hbb⟩ | ⟨x2, us2, val2, vr2, hq2, rfl, hF2, hts2, hbo2, ho2⟩
   ·exact .inr ⟨_, rfl, (Exists.elim hbb fun vb h1 => Exists.elim h1 fun db hb9 => (Pk.norm (Pk.then (Pk.block (Pk.then (Pk.bodyD1 (fun u => expr1_any _ u _ hb9 (hF2.old _ _ (by intro hk; first | exact n_b0_b1 hk.symm | (rcases hk with hk | hk; exact n_b0_b1 hk.symm; exact n_b1_b3 hk)) hb1)) (fun w9 hK => RetP.badThen (d := 0) (RetP.bad (by simp only [exprS, exB, listOne_eq, wayOne_eq, SB, hc1, hc2, hq2] <;> rfl) (Fr.then hR hF2 (fun k hk => .inl hk)) hbb) hK.2 (fun k hk => hk) ⟨_, _, hK.1⟩)))))))⟩
   refine .inl ⟨_, rfl, ?_⟩
   replace hb1 := Fr.oldB hF2 hb1 (n_b0_b1.symm)
   replace hb2 := Fr.oldB hF2 hb2 (n_b0_b2.symm)
   replace hb3 := Fr.oldB hF2 hb3 (n_b0_b3.symm)
   replace hb4 := Fr.oldB hF2 hb4 (n_b0_b4.symm)
   replace hb0 := hbo2
   have hsz2 := hR.size
   replace hR := Fr.then hR hF2 (fun k hk => .inl hk)
   replace hB := Fr.below hR hB0 hB0.size hSge
   have hnl2 := names_len _ _ _ hq2
   simp only [List.length_nil] at hnl2
   obtain ⟨hO_2, gO_2⟩ := ho2
   replace gO_2 : ∀ g, Value.ownBlock val2 = some g → w.heap.size ≤ g := fun g hg => Nat.le_trans hsz2 (gO_2 g hg)
   refine .ops0 ?_
   refine At.wpcN (.cons rfl rfl rfl rfl (fun Lx => ?_) .nil) ?_
   ·skip
    refine .fieldAddr rfl fo35_0 rfl (.ops0 ?_)
    exact fun a ha => ⟨ha, rfl⟩
   obtain ⟨u1, hu1⟩ := some_of_lt (l := x2) (i := 0) (by first | omega | (simp; done) | (simp; omega))
   refine At.wpcS (i := 2) (d := 44) (.pointer (some ⟨vBlock val2, vOff val2 + 0 * 1, none⟩)) (by kernel_rfl) rfl rfl rfl (fun Lx => ?_) ?_
   ·skip
    refine .indexAddr (i := 0) rfl rfl (hO_2.strs).ok (lt_of_some hu1) el29 sz9 rfl (.ops0 ?_)
    exact fun a ha => ⟨ha, rfl⟩
   refine At.wpcS (i := 3) (d := 45) (.string u1) (by kernel_rfl) rfl rfl rfl (fun Lx => ?_) ?_
   ·skip
    refine .load rfl (Ld.cell ag9 (cell_keep ((hO_2.strs).get hu1) (Below.refl _ _))) rfl (.ops0 ?_)
    exact fun a ha => ⟨ha, rfl⟩
   refine At.wpcE [5] (by kernel_rfl) (by kernel_rfl) (.cons [2, 3] rfl (by kernel_rfl) ?_ .nil)
   refine At.store1 rfl rfl hb3 sz3 (by simp) rfl (fun w9 S3 => ?_)
   replace hb0 := S3.other hb0 n_b0_b3
   replace hb1 := S3.other hb1 n_b1_b3
   replace hb2 := S3.other hb2 n_b2_b3
   replace hb4 := S3.other hb4 n_b3_b4.symm
   replace hO_2 := hO_2.set S3 (hO_2.neT hb3 rfl)
   replace hb3 : w9.heap[b3]? = some (.cells #[.int .i64 5, .int .i64 ((nx en ts).a), zS, zS, zI, zN, zN, zI, zS, zI, zN, zN, zI, zN, zI, zI, zS, zI, zN, zN, zI] 35) := S3.new
   replace hR := hR.setF S3 (.inr gb3)
   replace hB := Fr.below hR hB0 hB0.size hSge
   refine .ops0 ?_
   refine At.wpcN (.cons rfl rfl rfl rfl (fun Lx => ?_) (.cons rfl rfl rfl rfl (fun Lx => ?_) .nil)) ?_
   ·skip
    refine .indexAddr (i := 0) rfl rfl (hO_2.strs).ok (lt_of_some hu1) el29 sz9 rfl (.ops0 ?_)
    exact fun a ha => ⟨ha, rfl⟩
   ·skip
    refine .load rfl (Ld.cell ag9 (cell_keep ((hO_2.strs).get hu1) (Below.refl _ _))) rfl (.ops0 ?_)
    exact fun a ha => ⟨ha, rfl⟩
   refine At.wpcS (i := 6) (d := 47) (.pointer (some ⟨b3, 0 + 2, none⟩)) (by kernel_rfl) rfl rfl rfl (fun Lx => ?_) ?_
   ·skip
    refine .fieldAddr rfl fo35_2 rfl (.ops0 ?_)
    exact fun a ha => ⟨ha, rfl⟩
   refine At.wpcE [7] (by kernel_rfl) (by kernel_rfl) (.cons [] rfl (by kernel_rfl) ?_ .nil)
   refine At.store1 rfl rfl hb3 sz9 (by simp) rfl (fun w10 S4 => ?_)
   replace hb0 := S4.other hb0 n_b0_b3
   replace hb1 := S4.other hb1 n_b1_b3
   replace hb2 := S4.other hb2 n_b2_b3
   replace hb4 := S4.other hb4 n_b3_b4.symm
   replace hO_2 := hO_2.set S4 (hO_2.neT hb3 rfl)
   replace hb3 : w10.heap[b3]? = some (.cells #[.int .i64 5, .int .i64 ((nx en ts).a), .string u1, zS, zI, zN, zN, zI, zS, zI, zN, zN, zI, zN, zI, zI, zS, zI, zN, zN, zI] 35) := S4.new
   replace hR := hR.setF S4 (.inr gb3)
   replace hB := Fr.below hR hB0 hB0.size hSge
   refine .ops0 (.wpcN .nil (.wpcZ (.thenN (.region (.move rfl rfl ?_)))))
   refine At.buildSlice (xs := [.const (.string (⟨#[45, 62]⟩ : ByteArray))]) rfl rfl el29 sz9 ze9 (by intro v hv; simp only [List.mem_cons, List.not_mem_nil, or_false] at hv; rcases hv with rfl <;> first | rfl | simp [Value.cells]) rfl (by decide) rfl (fun b5 w11 F5 => ?_)
   have q_hO_2_b5 : some b5 ≠ Value.ownBlock val2 := Own.neFresh hO_2 F5
   have n_b0_b5 : b0 ≠ b5 := Nat.ne_of_lt (F5.lt hb0)
   have n_b1_b5 : b1 ≠ b5 := Nat.ne_of_lt (F5.lt hb1)
   have n_b2_b5 : b2 ≠ b5 := Nat.ne_of_lt (F5.lt hb2)
   have n_b3_b5 : b3 ≠ b5 := Nat.ne_of_lt (F5.lt hb3)
   have n_b4_b5 : b4 ≠ b5 := Nat.ne_of_lt (F5.lt hb4)
   have gb5 := Nat.le_trans hR.size (Nat.le_of_eq F5.eq.symm)
   replace hb0 := F5.old hb0
   replace hb1 := F5.old hb1
   replace hb2 := F5.old hb2
   replace hb3 := F5.old hb3
   replace hb4 := F5.old hb4
   replace hO_2 := hO_2.fresh F5
   have hb5 : w11.heap[b5]? = some (.cells #[.string (⟨#[45, 62]⟩ : ByteArray)] 9) := F5.new
   replace hR := hR.freshF F5
   replace hB := Fr.below hR hB0 hB0.size hSge
   have hml3 : MLt w11.heap.size [some b0, some b1, some b2, some b3, some b4, some b5, Value.ownBlock val2] := (MLt.blk hb0 (MLt.blk hb1 (MLt.blk hb2 (MLt.blk hb3 (MLt.blk hb4 (MLt.blk hb5 (MLt.own hO_2 (MLt.nil _))))))))
   have hsz3 := hR.size
   have hlt3_b2 := (Array.getElem?_eq_some_iff.1 hb2).1
   refine At.callVP rfl en73 rfl rfl (kids_any us2 vr2 [some b0, some b1, some b2, some b3, some b4, some b5, Value.ownBlock val2] b3 b1 5 ((nx en ts).a) u1 (⟨#[]⟩ : ByteArray) 0 (.slice (some ⟨b5, 0, none⟩) 1 1) ([(⟨#[45, 62]⟩ : ByteArray)]) ex _ hB (fun k hk => hk.elim (fun e => hSge k e) (fun e => e ▸ Nat.le_trans hB0.size gb3)) hts2 hb0 hb3 hb1 (OwnS.made (ss := ([(⟨#[45, 62]⟩ : ByteArray)])) hb5 rfl (by decide)) hml3 (by decide) (by have hz := hbig; have := tail_len (is_len hc2); have := PR.Le.of (names_le en 1 [] ts.tail) hq2; omega) hxs (hex hdp)) (fun e wp3 hR' => ?_)
   rcases hR'.cases.symm with ⟨ba, bc, hq3, rfl, hF3, hbb⟩ | ⟨x3, us3, val, vr3, hq3, rfl, hF3, hts3, hbo3, ho3⟩
   ·exact .inr ⟨_, rfl, (Exists.elim hbb fun vb h1 => Exists.elim h1 fun db hb9 => (Pk.block (Pk.then (Pk.bodyD1 (fun u => expr1_any _ u _ hb9 (hF3.old _ _ (by intro hk; first | exact n_b0_b1 hk.symm | (rcases hk with hk | hk; exact n_b0_b1 hk.symm; exact n_b1_b3 hk)) hb1)) (fun w9 hK => RetP.badThen (d := 0) (RetP.bad (by simp only [exprS, exB, listOne_eq, wayOne_eq, SB, hc1, hc2, hq2, hq3, getD_ofB hu1] <;> rfl) (Fr.then hR hF3 (fun k hk => hk.elim .inl (fun e => .inr (e ▸ gb3)))) hbb) hK.2 (fun k hk => hk) ⟨_, _, hK.1⟩)))))⟩
   refine .inl ⟨_, rfl, ?_⟩
   obtain ⟨rfl, hbp3, vg3, es3, hbx3, hO_3, gO_3, hX_3, hT_3, hnx3⟩ := ho3
   have q_hO_3_b2 : some b2 ≠ Value.ownBlock vg3 := fun e => by have h1 := gO_3 _ e.symm; omega
   replace gO_3 : ∀ g, Value.ownBlock vg3 = some g → w.heap.size ≤ g := fun g hg => Nat.le_trans hsz3 (gO_3 g hg)
   replace hb1 := hF3.old _ _ (fun hk => hk.elim (fun e => n_b0_b1 e.symm) (fun e => n_b1_b3.symm e.symm)) hb1
   replace hb2 := hF3.old _ _ (fun hk => hk.elim (fun e => n_b0_b2 e.symm) (fun e => n_b2_b3.symm e.symm)) hb2
   replace hb4 := hF3.old _ _ (fun hk => hk.elim (fun e => n_b0_b4 e.symm) (fun e => n_b3_b4 e.symm)) hb4
   replace hb5 := hF3.old _ _ (fun hk => hk.elim (fun e => n_b0_b5 e.symm) (fun e => n_b3_b5 e.symm)) hb5
   replace hO_2 := Own.frS hO_2 hF3 (fun g hg hk => hk.elim (fun e => by subst e; exact Own.neT hO_2 hb0 rfl hg.symm) (fun e => by subst e; exact Own.neT hO_2 hb3 rfl hg.symm))
   replace hb0 := hbo3
   have hb3 := hbx3
   replace hR := Fr.then hR hF3 (fun k hk => hk.elim .inl (fun e => .inr (e ▸ gb3)))
   replace hB := Fr.below hR hB0 hB0.size hSge
   replace hb3 : wp3.heap[b3]? = some (.cells #[.int .i64 5, .int .i64 ((nx en ts).a), .string u1, zS, zI, vg3, zN, zI, zS, zI, zN, zN, zI, zN, zI, zI, zS, zI, zN, zN, zI] 35) := hb3
   refine .ops0 (.inN (.thenN (.seq (.region (.load rfl (Ld.own (C := #[.int .i64 5, .int .i64 ((nx en ts).a), .string u1, zS, zI, vg3, zN, zI, zS, zI, zN, zN, zI, zN, zI, zI, zS, zI, zN, zN, zI]) ag35 sz35 hb3) rfl ?_)))))
   refine At.storeAll rfl rfl hb2 sz35 rfl (by first | (simp [Value.oneCell', (hO_3).one, ((SlOk.nil)).one]; done) | (simp only [List.all_toArray, List.all_cons, List.all_nil, (hO_3).one, ((SlOk.nil)).one, Bool.and_true, Bool.true_and]; rfl)) (fun w12 S5 => ?_)
   replace hb0 := S5.other hb0 n_b0_b2
   replace hb1 := S5.other hb1 n_b1_b2
   replace hb3 := S5.other hb3 n_b2_b3.symm
   replace hb4 := S5.other hb4 n_b2_b4.symm
   replace hb5 := S5.other hb5 n_b2_b5.symm
   replace hO_2 := hO_2.set S5 (hO_2.neT hb2 rfl)
   replace hO_3 := hO_3.set S5 q_hO_3_b2
   replace hX_3 := Xs.set hX_3 S5 (by simp)
   replace hb2 : w12.heap[b2]? = some (.cells #[.int .i64 5, .int .i64 ((nx en ts).a), .string u1, zS, zI, vg3, zN, zI, zS, zI, zN, zN, zI, zN, zI, zI, zS, zI, zN, zN, zI] 35) := S5.new
   replace hR := hR.setF S5 (.inr gb2)
   replace hB := Fr.below hR hB0 hB0.size hSge
   refine .ops0 (.thenN (.retc ?_))
   refine At.doneDR en72 (fun u => expr1_any _ u _ hb0 hb1) (fun w9 hK => ?_)
   obtain ⟨hb0n, hF9⟩ := hK
   replace hb1 := Fr.oldB hF9 hb1 (n_b0_b1.symm)
   replace hb2 := Fr.oldB hF9 hb2 (n_b0_b2.symm)
   replace hb3 := Fr.oldB hF9 hb3 (n_b0_b3.symm)
   replace hb4 := Fr.oldB hF9 hb4 (n_b0_b4.symm)
   replace hb5 := Fr.oldB hF9 hb5 (n_b0_b5.symm)
   replace hO_2 := OwnS.frB hO_2 hF9 hb0 rfl
   replace hO_3 := OwnR.frB hO_3 hF9 hb0 rfl
   replace hX_3 := Xs.frS hX_3 hF9 (by rintro k rfl; simp)
   rw [wrap_sub (by omega)] at hb0n
   replace hb0 := hb0n
   replace hR := Fr.then hR hF9 (fun k hk => .inl hk)
   refine ⟨_, ResV.cell rfl (Ld.own (C := #[.int .i64 5, .int .i64 ((nx en ts).a), .string u1, zS, zI, vg3, zN, zI, zS, zI, zN, zN, zI, zN, zI, zI, zS, zI, zN, zN, zI]) ag35 sz35 hb2) ResV.nil, ?_⟩
   exact RetP.ok (x := (ST.mk 5 ((nx en ts).a) u1 (⟨#[]⟩ : ByteArray) 0 x3 [])) (by simp only [exprS, exB, listOne_eq, wayOne_eq, SB, hc1, hc2, hq2, hq3, getD_ofB hu1] <;> rfl) hR hts3 hb0 ⟨(tmA 5 ((nx en ts).a) u1 (⟨#[]⟩ : ByteArray) 0 vg3 es3 zN []), rfl, (tmA_ok (OwnR.rows hO_3 (fun u hu => (((Xs.ok hX_3)) u hu).size)) (Xs.ok (Xs.weaken (M' := []) hX_3 SubM.nil)) (RowsAt.nil _ 23) (Xs.ok (Xs.nil kAm [] _))), (MT.made (k := 5) (a := (nx en ts).a) (nm := u1) (pm := (⟨#[]⟩ : ByteArray)) (n := 0) (MTL.mono hT_3 hsz3) (MAL.nil w) (fun hn => OwnR.vbGe hO_3 gO_3 hn) (fun h => absurd rfl h))⟩
  ·skip
   refine .seq (.region (.load rfl (Ld.ownCell ag77 hb1 rfl) rfl (.nilCheck rfl rfl (.fieldAddr rfl fo81_0 rfl ?_))))
   refine At.buildSlice (xs := [.const (.string (⟨#[108, 101, 116]⟩ : ByteArray))]) rfl rfl el29 sz9 ze9 (by intro v hv; simp only [List.mem_cons, List.not_mem_nil, or_false] at hv; rcases hv with rfl <;> first | rfl | simp [Value.cells]) rfl (by decide) rfl (fun b6 w13 F6 => ?_)
   have n_b0_b6 : b0 ≠ b6 := Nat.ne_of_lt (F6.lt hb0)
   have n_b1_b6 : b1 ≠ b6 := Nat.ne_of_lt (F6.lt hb1)
   have n_b2_b6 : b2 ≠ b6 := Nat.ne_of_lt (F6.lt hb2)
   have n_b3_b6 : b3 ≠ b6 := Nat.ne_of_lt (F6.lt hb3)
   have n_b4_b6 : b4 ≠ b6 := Nat.ne_of_lt (F6.lt hb4)
   have gb6 := Nat.le_trans hR.size (Nat.le_of_eq F6.eq.symm)
   replace hb0 := F6.old hb0
   replace hb1 := F6.old hb1
   replace hb2 := F6.old hb2
   replace hb3 := F6.old hb3
   replace hb4 := F6.old hb4
   have hb6 : w13.heap[b6]? = some (.cells #[.string (⟨#[108, 101, 116]⟩ : ByteArray)] 9) := F6.new
   replace hR := hR.freshF F6
   replace hB := Fr.below hR hB0 hB0.size hSge
   refine At.call en43 rfl rfl (is_any ts v (.slice (some ⟨b6, 0, none⟩) 1 1) ([(⟨#[108, 101, 116]⟩ : ByteArray)]) _ ((hts).keep hB) hb0 ((StrsAt.own (ss := [(⟨#[108, 101, 116]⟩ : ByteArray)]) hb6 rfl (by decide) : StrsAt _ (.slice (some ⟨b6, 0, none⟩) 1 1) [(⟨#[108, 101, 116]⟩ : ByteArray)]))) (fun e w14 hR' => ?_)
   obtain ⟨rfl, hbl3⟩ := hR'
   refine ⟨_, rfl, ?_⟩
   replace hb0 := Below.old hbl3 hb0
   replace hb1 := Below.old hbl3 hb1
   replace hb2 := Below.old hbl3 hb2
   replace hb3 := Below.old hbl3 hb3
   replace hb4 := Below.old hbl3 hb4
   replace hb6 := Below.old hbl3 hb6
   replace hR := hR.callF hbl3
   replace hB := Fr.below hR hB0 hB0.size hSge
   refine .assign rfl rfl (.ops0 (.thenN ?_))
   refine At.cond (b := (isK en ts ([(⟨#[108, 101, 116]⟩ : ByteArray)]))) rfl (fun hc3 => ?_) (fun hc3 => ?_)
   ·skip
    refine .seq (.region (.load rfl (Ld.ownCell ag77 hb1 rfl) rfl (.nilCheck rfl rfl (.fieldAddr rfl fo81_0 rfl ?_))))
    refine At.call en74 rfl rfl (ptake_any ts v _ hB hSge hts hb0 (is_len hc3)) (fun e wp4 hR' => ?_)
    obtain ⟨vr4, rfl, hts4, hbo4, hF4⟩ := hR'
    refine ⟨_, rfl, ?_⟩
    replace hb1 := Fr.oldB hF4 hb1 (n_b0_b1.symm)
    replace hb2 := Fr.oldB hF4 hb2 (n_b0_b2.symm)
    replace hb3 := Fr.oldB hF4 hb3 (n_b0_b3.symm)
    replace hb4 := Fr.oldB hF4 hb4 (n_b0_b4.symm)
    replace hb6 := Fr.oldB hF4 hb6 (n_b0_b6.symm)
    replace hb0 := hbo4
    replace hR := Fr.then hR hF4 (fun k hk => .inl hk)
    replace hB := Fr.below hR hB0 hB0.size hSge
    refine .ops0 (.thenN (.seq (.drawG (n := 8) mixed (by kernel_rfl) rfl (PanicOk.then (PanicOk.block (PanicOk.then PanicOk.bodyD1))) ?_)))
    have hR := Fr.drewF hR
    have hB := Below.drewB hB
    have hb0 : _ := (show wp4.drew.heap[b0]? = _ from hb0)
    have hb1 : _ := (show wp4.drew.heap[b1]? = _ from hb1)
    have hb2 : _ := (show wp4.drew.heap[b2]? = _ from hb2)
    have hb3 : _ := (show wp4.drew.heap[b3]? = _ from hb3)
    have hb4 : _ := (show wp4.drew.heap[b4]? = _ from hb4)
    have hb6 : _ := (show wp4.drew.heap[b6]? = _ from hb6)
    refine At.wpcS (i := 0) (d := 61) (.pointer (some ⟨b0, 0, none⟩)) (by kernel_rfl) rfl rfl rfl (fun Lx => ?_) ?_
    ·skip
     refine .load rfl (Ld.ownCell ag77 hb1 rfl) rfl (.ops0 ?_)
     exact fun a ha => ⟨ha, rfl⟩
    refine At.wpcS (i := 4) (d := 65) (.pointer (some ⟨b3, 0 + 0, none⟩)) (by kernel_rfl) rfl rfl rfl (fun Lx => ?_) ?_
    ·skip
     refine .fieldAddr rfl fo35_0 rfl (.ops0 ?_)
     exact fun a ha => ⟨ha, rfl⟩
    refine At.wpcE [1] (by kernel_rfl) (by kernel_rfl) (.cons [4] rfl (by kernel_rfl) ?_ .nil)
    refine At.callP en75 rfl rfl (names_any ts.tail vr4 1 _ hB hSge hts4 hb0 (by decide)) (fun e wp5 hR' => ?_)
    rcases hR'.cases.symm with ⟨ba, bc, hq5, rfl, hF5, hbb⟩ | ⟨x5, us5, val5, vr5, hq5, rfl, hF5, hts5, hbo5, ho5⟩
    ·exact .inr ⟨_, rfl, (Exists.elim hbb fun vb h1 => Exists.elim h1 fun db hb9 => (Pk.norm (Pk.then (Pk.block (Pk.then (Pk.bodyD1 (fun u => expr1_any _ u _ hb9 (hF5.old _ _ (by intro hk; first | exact n_b0_b1 hk.symm | (rcases hk with hk | hk; exact n_b0_b1 hk.symm; exact n_b1_b3 hk)) hb1)) (fun w9 hK => RetP.badThen (d := 0) (RetP.bad (by simp only [exprS, exB, listOne_eq, wayOne_eq, SB, hc1, hc2, hc3, hq5] <;> rfl) (Fr.then hR hF5 (fun k hk => .inl hk)) hbb) hK.2 (fun k hk => hk) ⟨_, _, hK.1⟩)))))))⟩
    refine .inl ⟨_, rfl, ?_⟩
    replace hb1 := Fr.oldB hF5 hb1 (n_b0_b1.symm)
    replace hb2 := Fr.oldB hF5 hb2 (n_b0_b2.symm)
    replace hb3 := Fr.oldB hF5 hb3 (n_b0_b3.symm)
    replace hb4 := Fr.oldB hF5 hb4 (n_b0_b4.symm)
    replace hb6 := Fr.oldB hF5 hb6 (n_b0_b6.symm)
    replace hb0 := hbo5
    have hsz5 := hR.size
    replace hR := Fr.then hR hF5 (fun k hk => .inl hk)
    replace hB := Fr.below hR hB0 hB0.size hSge
    have hnl5 := names_len _ _ _ hq5
    simp only [List.length_nil] at hnl5
    obtain ⟨hO_5, gO_5⟩ := ho5
    replace gO_5 : ∀ g, Value.ownBlock val5 = some g → w.heap.size ≤ g := fun g hg => Nat.le_trans hsz5 (gO_5 g hg)
    refine .ops0 ?_
    refine At.wpcN (.cons rfl rfl rfl rfl (fun Lx => ?_) .nil) ?_
    ·skip
     refine .fieldAddr rfl fo35_0 rfl (.ops0 ?_)
     exact fun a ha => ⟨ha, rfl⟩
    obtain ⟨u2, hu2⟩ := some_of_lt (l := x5) (i := 0) (by first | omega | (simp; done) | (simp; omega))
    refine At.wpcS (i := 2) (d := 63) (.pointer (some ⟨vBlock val5, vOff val5 + 0 * 1, none⟩)) (by kernel_rfl) rfl rfl rfl (fun Lx => ?_) ?_
    ·skip
     refine .indexAddr (i := 0) rfl rfl (hO_5.strs).ok (lt_of_some hu2) el29 sz9 rfl (.ops0 ?_)
     exact fun a ha => ⟨ha, rfl⟩
    refine At.wpcS (i := 3) (d := 64) (.string u2) (by kernel_rfl) rfl rfl rfl (fun Lx => ?_) ?_
    ·skip
     refine .load rfl (Ld.cell ag9 (cell_keep ((hO_5.strs).get hu2) (Below.refl _ _))) rfl (.ops0 ?_)
     exact fun a ha => ⟨ha, rfl⟩
    refine At.wpcE [5] (by kernel_rfl) (by kernel_rfl) (.cons [2, 3] rfl (by kernel_rfl) ?_ .nil)
    refine At.store1 rfl rfl hb3 sz3 (by simp) rfl (fun w15 S6 => ?_)
    replace hb0 := S6.other hb0 n_b0_b3
    replace hb1 := S6.other hb1 n_b1_b3
    replace hb2 := S6.other hb2 n_b2_b3
    replace hb4 := S6.other hb4 n_b3_b4.symm
    replace hb6 := S6.other hb6 n_b3_b6.symm
    replace hO_5 := hO_5.set S6 (hO_5.neT hb3 rfl)
    replace hb3 : w15.heap[b3]? = some (.cells #[.int .i64 7, .int .i64 ((nx en ts).a), zS, zS, zI, zN, zN, zI, zS, zI, zN, zN, zI, zN, zI, zI, zS, zI, zN, zN, zI] 35) := S6.new
    replace hR := hR.setF S6 (.inr gb3)
    replace hB := Fr.below hR hB0 hB0.size hSge
    refine .ops0 ?_
    refine At.wpcN (.cons rfl rfl rfl rfl (fun Lx => ?_) (.cons rfl rfl rfl rfl (fun Lx => ?_) .nil)) ?_
    ·skip
     refine .indexAddr (i := 0) rfl rfl (hO_5.strs).ok (lt_of_some hu2) el29 sz9 rfl (.ops0 ?_)
     exact fun a ha => ⟨ha, rfl⟩
    ·skip
     refine .load rfl (Ld.cell ag9 (cell_keep ((hO_5.strs).get hu2) (Below.refl _ _))) rfl (.ops0 ?_)
     exact fun a ha => ⟨ha, rfl⟩
    refine At.wpcS (i := 6) (d := 66) (.pointer (some ⟨b3, 0 + 2, none⟩)) (by kernel_rfl) rfl rfl rfl (fun Lx => ?_) ?_
    ·skip
     refine .fieldAddr rfl fo35_2 rfl (.ops0 ?_)
     exact fun a ha => ⟨ha, rfl⟩
    refine At.wpcE [7] (by kernel_rfl) (by kernel_rfl) (.cons [] rfl (by kernel_rfl) ?_ .nil)
    refine At.store1 rfl rfl hb3 sz9 (by simp) rfl (fun w16 S7 => ?_)
    replace hb0 := S7.other hb0 n_b0_b3
    replace hb1 := S7.other hb1 n_b1_b3
    replace hb2 := S7.other hb2 n_b2_b3
    replace hb4 := S7.other hb4 n_b3_b4.symm
    replace hb6 := S7.other hb6 n_b3_b6.symm
    replace hO_5 := hO_5.set S7 (hO_5.neT hb3 rfl)
    replace hb3 : w16.heap[b3]? = some (.cells #[.int .i64 7, .int .i64 ((nx en ts).a), .string u2, zS, zI, zN, zN, zI, zS, zI, zN, zN, zI, zN, zI, zI, zS, zI, zN, zN, zI] 35) := S7.new
    replace hR := hR.setF S7 (.inr gb3)
    replace hB := Fr.below hR hB0 hB0.size hSge
    refine .ops0 (.wpcN .nil (.wpcZ (.thenN (.region (.move rfl rfl ?_)))))
    refine At.buildSlice (xs := [.const (.string (⟨#[61]⟩ : ByteArray)), .const (.string (⟨#[105, 110]⟩ : ByteArray))]) rfl rfl el29 sz9 ze9 (by intro v hv; simp only [List.mem_cons, List.not_mem_nil, or_false] at hv; rcases hv with rfl | rfl <;> first | rfl | simp [Value.cells]) rfl (by decide) rfl (fun b7 w17 F7 => ?_)
    have q_hO_5_b7 : some b7 ≠ Value.ownBlock val5 := Own.neFresh hO_5 F7
    have n_b0_b7 : b0 ≠ b7 := Nat.ne_of_lt (F7.lt hb0)
    have n_b1_b7 : b1 ≠ b7 := Nat.ne_of_lt (F7.lt hb1)
    have n_b2_b7 : b2 ≠ b7 := Nat.ne_of_lt (F7.lt hb2)
    have n_b3_b7 : b3 ≠ b7 := Nat.ne_of_lt (F7.lt hb3)
    have n_b4_b7 : b4 ≠ b7 := Nat.ne_of_lt (F7.lt hb4)
    have n_b6_b7 : b6 ≠ b7 := Nat.ne_of_lt (F7.lt hb6)
    have gb7 := Nat.le_trans hR.size (Nat.le_of_eq F7.eq.symm)
    replace hb0 := F7.old hb0
    replace hb1 := F7.old hb1
    replace hb2 := F7.old hb2
    replace hb3 := F7.old hb3
    replace hb4 := F7.old hb4
    replace hb6 := F7.old hb6
    replace hO_5 := hO_5.fresh F7
    have hb7 : w17.heap[b7]? = some (.cells #[.string (⟨#[61]⟩ : ByteArray), .string (⟨#[105, 110]⟩ : ByteArray)] 9) := F7.new
    replace hR := hR.freshF F7
    replace hB := Fr.below hR hB0 hB0.size hSge
    have hml6 : MLt w17.heap.size [some b0, some b1, some b2, some b3, some b4, some b6, some b7, Value.ownBlock val5] := (MLt.blk hb0 (MLt.blk hb1 (MLt.blk hb2 (MLt.blk hb3 (MLt.blk hb4 (MLt.blk hb6 (MLt.blk hb7 (MLt.own hO_5 (MLt.nil _)))))))))
    have hsz6 := hR.size
    have hlt6_b2 := (Array.getElem?_eq_some_iff.1 hb2).1
    refine At.callVP rfl en73 rfl rfl (kids_any us5 vr5 [some b0, some b1, some b2, some b3, some b4, some b6, some b7, Value.ownBlock val5] b3 b1 7 ((nx en ts).a) u2 (⟨#[]⟩ : ByteArray) 0 (.slice (some ⟨b7, 0, none⟩) 2 2) ([(⟨#[61]⟩ : ByteArray), (⟨#[105, 110]⟩ : ByteArray)]) ex _ hB (fun k hk => hk.elim (fun e => hSge k e) (fun e => e ▸ Nat.le_trans hB0.size gb3)) hts5 hb0 hb3 hb1 (OwnS.made (ss := ([(⟨#[61]⟩ : ByteArray), (⟨#[105, 110]⟩ : ByteArray)])) hb7 rfl (by decide)) hml6 (by decide) (by have hz := hbig; have := tail_len (is_len hc3); have := PR.Le.of (names_le en 1 [] ts.tail) hq5; omega) hxs (hex hdp)) (fun e wp6 hR' => ?_)
    rcases hR'.cases.symm with ⟨ba, bc, hq6, rfl, hF6, hbb⟩ | ⟨x6, us6, val, vr6, hq6, rfl, hF6, hts6, hbo6, ho6⟩
    ·exact .inr ⟨_, rfl, (Exists.elim hbb fun vb h1 => Exists.elim h1 fun db hb9 => (Pk.block (Pk.then (Pk.bodyD1 (fun u => expr1_any _ u _ hb9 (hF6.old _ _ (by intro hk; first | exact n_b0_b1 hk.symm | (rcases hk with hk | hk; exact n_b0_b1 hk.symm; exact n_b1_b3 hk)) hb1)) (fun w9 hK => RetP.badThen (d := 0) (RetP.bad (by simp only [exprS, exB, listOne_eq, wayOne_eq, SB, hc1, hc2, hc3, hq5, hq6, getD_ofB hu2] <;> rfl) (Fr.then hR hF6 (fun k hk => hk.elim .inl (fun e => .inr (e ▸ gb3)))) hbb) hK.2 (fun k hk => hk) ⟨_, _, hK.1⟩)))))⟩
    refine .inl ⟨_, rfl, ?_⟩
    obtain ⟨rfl, hbp6, vg6, es6, hbx6, hO_6, gO_6, hX_6, hT_6, hnx6⟩ := ho6
    have q_hO_6_b2 : some b2 ≠ Value.ownBlock vg6 := fun e => by have h1 := gO_6 _ e.symm; omega
    replace gO_6 : ∀ g, Value.ownBlock vg6 = some g → w.heap.size ≤ g := fun g hg => Nat.le_trans hsz6 (gO_6 g hg)
    replace hb1 := hF6.old _ _ (fun hk => hk.elim (fun e => n_b0_b1 e.symm) (fun e => n_b1_b3.symm e.symm)) hb1
    replace hb2 := hF6.old _ _ (fun hk => hk.elim (fun e => n_b0_b2 e.symm) (fun e => n_b2_b3.symm e.symm)) hb2
    replace hb4 := hF6.old _ _ (fun hk => hk.elim (fun e => n_b0_b4 e.symm) (fun e => n_b3_b4 e.symm)) hb4
    replace hb6 := hF6.old _ _ (fun hk => hk.elim (fun e => n_b0_b6 e.symm) (fun e => n_b3_b6 e.symm)) hb6
    replace hb7 := hF6.old _ _ (fun hk => hk.elim (fun e => n_b0_b7 e.symm) (fun e => n_b3_b7 e.symm)) hb7
    replace hO_5 := Own.frS hO_5 hF6 (fun g hg hk => hk.elim (fun e => by subst e; exact Own.neT hO_5 hb0 rfl hg.symm) (fun e => by subst e; exact Own.neT hO_5 hb3 rfl hg.symm))
    replace hb0 := hbo6
    have hb3 := hbx6
    replace hR := Fr.then hR hF6 (fun k hk => hk.elim .inl (fun e => .inr (e ▸ gb3)))
    replace hB := Fr.below hR hB0 hB0.size hSge
    replace hb3 : wp6.heap[b3]? = some (.cells #[.int .i64 7, .int .i64 ((nx en ts).a), .string u2, zS, zI, vg6, zN, zI, zS, zI, zN, zN, zI, zN, zI, zI, zS, zI, zN, zN, zI] 35) := hb3
    refine .ops0 (.inN (.thenN (.seq (.region (.load rfl (Ld.own (C := #[.int .i64 7, .int .i64 ((nx en ts).a), .string u2, zS, zI, vg6, zN, zI, zS, zI, zN, zN, zI, zN, zI, zI, zS, zI, zN, zN, zI]) ag35 sz35 hb3) rfl ?_)))))
    refine At.storeAll rfl rfl hb2 sz35 rfl (by first | (simp [Value.oneCell', (hO_6).one, ((SlOk.nil)).one]; done) | (simp only [List.all_toArray, List.all_cons, List.all_nil, (hO_6).one, ((SlOk.nil)).one, Bool.and_true, Bool.true_and]; rfl)) (fun w18 S8 => ?_)
    replace hb0 := S8.other hb0 n_b0_b2
    replace hb1 := S8.other hb1 n_b1_b2
    replace hb3 := S8.other hb3 n_b2_b3.symm
    replace hb4 := S8.other hb4 n_b2_b4.symm
    replace hb6 := S8.other hb6 n_b2_b6.symm
    replace hb7 := S8.other hb7 n_b2_b7.symm
    replace hO_5 := hO_5.set S8 (hO_5.neT hb2 rfl)
    replace hO_6 := hO_6.set S8 q_hO_6_b2
    replace hX_6 := Xs.set hX_6 S8 (by simp)
    replace hb2 : w18.heap[b2]? = some (.cells #[.int .i64 7, .int .i64 ((nx en ts).a), .string u2, zS, zI, vg6, zN, zI, zS, zI, zN, zN, zI, zN, zI, zI, zS, zI, zN, zN, zI] 35) := S8.new
    replace hR := hR.setF S8 (.inr gb2)
    replace hB := Fr.below hR hB0 hB0.size hSge
    refine .ops0 (.thenN (.retc ?_))
    refine At.doneDR en72 (fun u => expr1_any _ u _ hb0 hb1) (fun w9 hK => ?_)
    obtain ⟨hb0n, hF9⟩ := hK
    replace hb1 := Fr.oldB hF9 hb1 (n_b0_b1.symm)
    replace hb2 := Fr.oldB hF9 hb2 (n_b0_b2.symm)
    replace hb3 := Fr.oldB hF9 hb3 (n_b0_b3.symm)
    replace hb4 := Fr.oldB hF9 hb4 (n_b0_b4.symm)
    replace hb6 := Fr.oldB hF9 hb6 (n_b0_b6.symm)
    replace hb7 := Fr.oldB hF9 hb7 (n_b0_b7.symm)
    replace hO_5 := OwnS.frB hO_5 hF9 hb0 rfl
    replace hO_6 := OwnR.frB hO_6 hF9 hb0 rfl
    replace hX_6 := Xs.frS hX_6 hF9 (by rintro k rfl; simp)
    rw [wrap_sub (by omega)] at hb0n
    replace hb0 := hb0n
    replace hR := Fr.then hR hF9 (fun k hk => .inl hk)
    refine ⟨_, ResV.cell rfl (Ld.own (C := #[.int .i64 7, .int .i64 ((nx en ts).a), .string u2, zS, zI, vg6, zN, zI, zS, zI, zN, zN, zI, zN, zI, zI, zS, zI, zN, zN, zI]) ag35 sz35 hb2) ResV.nil, ?_⟩
    exact RetP.ok (x := (ST.mk 7 ((nx en ts).a) u2 (⟨#[]⟩ : ByteArray) 0 x6 [])) (by simp only [exprS, exB, listOne_eq, wayOne_eq, SB, hc1, hc2, hc3, hq5, hq6, getD_ofB hu2] <;> rfl) hR hts6 hb0 ⟨(tmA 7 ((nx en ts).a) u2 (⟨#[]⟩ : ByteArray) 0 vg6 es6 zN []), rfl, (tmA_ok (OwnR.rows hO_6 (fun u hu => (((Xs.ok hX_6)) u hu).size)) (Xs.ok (Xs.weaken (M' := []) hX_6 SubM.nil)) (RowsAt.nil _ 23) (Xs.ok (Xs.nil kAm [] _))), (MT.made (k := 7) (a := (nx en ts).a) (nm := u2) (pm := (⟨#[]⟩ : ByteArray)) (n := 0) (MTL.mono hT_6 hsz6) (MAL.nil w) (fun hn => OwnR.vbGe hO_6 gO_6 hn) (fun h => absurd rfl h))⟩
   ·skip
    refine .seq (.region (.load rfl (Ld.ownCell ag77 hb1 rfl) rfl (.nilCheck rfl rfl (.fieldAddr rfl fo81_0 rfl ?_))))
    refine At.buildSlice (xs := [.const (.string (⟨#[114, 101, 99]⟩ : ByteArray))]) rfl rfl el29 sz9 ze9 (by intro v hv; simp only [List.mem_cons, List.not_mem_nil, or_false] at hv; rcases hv with rfl <;> first | rfl | simp [Value.cells]) rfl (by decide) rfl (fun b8 w19 F8 => ?_)
    have n_b0_b8 : b0 ≠ b8 := Nat.ne_of_lt (F8.lt hb0)
    have n_b1_b8 : b1 ≠ b8 := Nat.ne_of_lt (F8.lt hb1)
    have n_b2_b8 : b2 ≠ b8 := Nat.ne_of_lt (F8.lt hb2)
    have n_b3_b8 : b3 ≠ b8 := Nat.ne_of_lt (F8.lt hb3)
    have n_b4_b8 : b4 ≠ b8 := Nat.ne_of_lt (F8.lt hb4)
    have n_b6_b8 : b6 ≠ b8 := Nat.ne_of_lt (F8.lt hb6)
    have gb8 := Nat.le_trans hR.size (Nat.le_of_eq F8.eq.symm)
    replace hb0 := F8.old hb0
    replace hb1 := F8.old hb1
    replace hb2 := F8.old hb2
    replace hb3 := F8.old hb3
    replace hb4 := F8.old hb4
    replace hb6 := F8.old hb6
    have hb8 : w19.heap[b8]? = some (.cells #[.string (⟨#[114, 101, 99]⟩ : ByteArray)] 9) := F8.new
    replace hR := hR.freshF F8
    replace hB := Fr.below hR hB0 hB0.size hSge
    refine At.call en43 rfl rfl (is_any ts v (.slice (some ⟨b8, 0, none⟩) 1 1) ([(⟨#[114, 101, 99]⟩ : ByteArray)]) _ ((hts).keep hB) hb0 ((StrsAt.own (ss := [(⟨#[114, 101, 99]⟩ : ByteArray)]) hb8 rfl (by decide) : StrsAt _ (.slice (some ⟨b8, 0, none⟩) 1 1) [(⟨#[114, 101, 99]⟩ : ByteArray)]))) (fun e w20 hR' => ?_)
    obtain ⟨rfl, hbl4⟩ := hR'
    refine ⟨_, rfl, ?_⟩
    replace hb0 := Below.old hbl4 hb0
    replace hb1 := Below.old hbl4 hb1
    replace hb2 := Below.old hbl4 hb2
    replace hb3 := Below.old hbl4 hb3
    replace hb4 := Below.old hbl4 hb4
    replace hb6 := Below.old hbl4 hb6
    replace hb8 := Below.old hbl4 hb8
    replace hR := hR.callF hbl4
    replace hB := Fr.below hR hB0 hB0.size hSge
    refine .assign rfl rfl (.ops0 (.thenN ?_))
    refine At.cond (b := (isK en ts ([(⟨#[114, 101, 99]⟩ : ByteArray)]))) rfl (fun hc4 => ?_) (fun hc4 => ?_)
    ·skip
     refine .seq (.region (.load rfl (Ld.ownCell ag77 hb1 rfl) rfl (.nilCheck rfl rfl (.fieldAddr rfl fo81_0 rfl ?_))))
     refine At.call en74 rfl rfl (ptake_any ts v _ hB hSge hts hb0 (is_len hc4)) (fun e wp7 hR' => ?_)
     obtain ⟨vr7, rfl, hts7, hbo7, hF7⟩ := hR'
     refine ⟨_, rfl, ?_⟩
     replace hb1 := Fr.oldB hF7 hb1 (n_b0_b1.symm)
     replace hb2 := Fr.oldB hF7 hb2 (n_b0_b2.symm)
     replace hb3 := Fr.oldB hF7 hb3 (n_b0_b3.symm)
     replace hb4 := Fr.oldB hF7 hb4 (n_b0_b4.symm)
     replace hb6 := Fr.oldB hF7 hb6 (n_b0_b6.symm)
     replace hb8 := Fr.oldB hF7 hb8 (n_b0_b8.symm)
     replace hb0 := hbo7
     replace hR := Fr.then hR hF7 (fun k hk => .inl hk)
     replace hB := Fr.below hR hB0 hB0.size hSge
     refine .ops0 (.thenN (.seq (.region (.load rfl (Ld.ownCell ag77 hb1 rfl) rfl ?_))))
     refine At.callP en75 rfl rfl (names_any ts.tail vr7 2 _ hB hSge hts7 hb0 (by decide)) (fun e wp8 hR' => ?_)
     rcases hR'.cases.symm with ⟨ba, bc, hq8, rfl, hF8, hbb⟩ | ⟨x8, us8, val8, vr8, hq8, rfl, hF8, hts8, hbo8, ho8⟩
     ·exact .inr ⟨_, rfl, (Exists.elim hbb fun vb h1 => Exists.elim h1 fun db hb9 => (Pk.then (Pk.block (Pk.then (Pk.bodyD1 (fun u => expr1_any _ u _ hb9 (hF8.old _ _ (by intro hk; first | exact n_b0_b1 hk.symm | (rcases hk with hk | hk; exact n_b0_b1 hk.symm; exact n_b1_b3 hk)) hb1)) (fun w9 hK => RetP.badThen (d := 0) (RetP.bad (by simp only [exprS, exB, listOne_eq, wayOne_eq, SB, hc1, hc2, hc3, hc4, hq8] <;> rfl) (Fr.then hR hF8 (fun k hk => .inl hk)) hbb) hK.2 (fun k hk => hk) ⟨_, _, hK.1⟩))))))⟩
     refine .inl ⟨_, rfl, ?_⟩
     replace hb1 := Fr.oldB hF8 hb1 (n_b0_b1.symm)
     replace hb2 := Fr.oldB hF8 hb2 (n_b0_b2.symm)
     replace hb3 := Fr.oldB hF8 hb3 (n_b0_b3.symm)
     replace hb4 := Fr.oldB hF8 hb4 (n_b0_b4.symm)
     replace hb6 := Fr.oldB hF8 hb6 (n_b0_b6.symm)
     replace hb8 := Fr.oldB hF8 hb8 (n_b0_b8.symm)
     replace hb0 := hbo8
     have hsz8 := hR.size
     replace hR := Fr.then hR hF8 (fun k hk => .inl hk)
     replace hB := Fr.below hR hB0 hB0.size hSge
     have hnl8 := names_len _ _ _ hq8
     simp only [List.length_nil] at hnl8
     obtain ⟨hO_8, gO_8⟩ := ho8
     replace gO_8 : ∀ g, Value.ownBlock val8 = some g → w.heap.size ≤ g := fun g hg => Nat.le_trans hsz8 (gO_8 g hg)
     refine .assign rfl rfl (.ops0 (.thenN (.seq (.drawG (n := 12) mixed (by kernel_rfl) rfl (PanicOk.then (PanicOk.block (PanicOk.then PanicOk.bodyD1))) ?_))))
     have hR := Fr.drewF hR
     have hB := Below.drewB hB
     have hb0 : _ := (show wp8.drew.heap[b0]? = _ from hb0)
     have hb1 : _ := (show wp8.drew.heap[b1]? = _ from hb1)
     have hb2 : _ := (show wp8.drew.heap[b2]? = _ from hb2)
     have hb3 : _ := (show wp8.drew.heap[b3]? = _ from hb3)
     have hb4 : _ := (show wp8.drew.heap[b4]? = _ from hb4)
     have hb6 : _ := (show wp8.drew.heap[b6]? = _ from hb6)
     have hb8 : _ := (show wp8.drew.heap[b8]? = _ from hb8)
     have hO_8 := hO_8.drew
     refine At.wpcS (i := 0) (d := 82) (val8) (by kernel_rfl) rfl rfl rfl (fun Lx => ?_) ?_
     ·skip
      refine .move rfl rfl (.ops0 ?_)
      exact fun a ha => ⟨ha, rfl⟩
     obtain ⟨u3, hu3⟩ := some_of_lt (l := x8) (i := 0) (by first | omega | (simp; done) | (simp; omega))
     refine At.wpcS (i := 1) (d := 83) (.pointer (some ⟨vBlock val8, vOff val8 + 0 * 1, none⟩)) (by kernel_rfl) rfl rfl rfl (fun Lx => ?_) ?_
     ·skip
      refine .indexAddr (i := 0) rfl rfl (hO_8.strs).ok (lt_of_some hu3) el29 sz9 rfl (.ops0 ?_)
      exact fun a ha => ⟨ha, rfl⟩
     refine At.wpcS (i := 2) (d := 84) (.string u3) (by kernel_rfl) rfl rfl rfl (fun Lx => ?_) ?_
     ·skip
      refine .load rfl (Ld.cell ag9 (cell_keep ((hO_8.strs).get hu3) (Below.refl _ _))) rfl (.ops0 ?_)
      exact fun a ha => ⟨ha, rfl⟩
     refine At.wpcS (i := 3) (d := 85) (val8) (by kernel_rfl) rfl rfl rfl (fun Lx => ?_) ?_
     ·skip
      refine .move rfl rfl (.ops0 ?_)
      exact fun a ha => ⟨ha, rfl⟩
     obtain ⟨u4, hu4⟩ := some_of_lt (l := x8) (i := 1) (by first | omega | (simp; done) | (simp; omega))
     refine At.wpcS (i := 4) (d := 86) (.pointer (some ⟨vBlock val8, vOff val8 + 1 * 1, none⟩)) (by kernel_rfl) rfl rfl rfl (fun Lx => ?_) ?_
     ·skip
      refine .indexAddr (i := 1) rfl rfl (hO_8.strs).ok (lt_of_some hu4) el29 sz9 rfl (.ops0 ?_)
      exact fun a ha => ⟨ha, rfl⟩
     refine At.wpcS (i := 5) (d := 87) (.string u4) (by kernel_rfl) rfl rfl rfl (fun Lx => ?_) ?_
     ·skip
      refine .load rfl (Ld.cell ag9 (cell_keep ((hO_8.strs).get hu4) (Below.refl _ _))) rfl (.ops0 ?_)
      exact fun a ha => ⟨ha, rfl⟩
     refine At.wpcS (i := 6) (d := 88) (.pointer (some ⟨b3, 0 + 0, none⟩)) (by kernel_rfl) rfl rfl rfl (fun Lx => ?_) ?_
     ·skip
      refine .fieldAddr rfl fo35_0 rfl (.ops0 ?_)
      exact fun a ha => ⟨ha, rfl⟩
     refine At.wpcE [7] (by kernel_rfl) (by kernel_rfl) (.cons [0, 1, 2, 3, 4, 5] rfl (by kernel_rfl) ?_ .nil)
     refine At.store1 rfl rfl hb3 sz3 (by simp) rfl (fun w21 S9 => ?_)
     replace hb0 := S9.other hb0 n_b0_b3
     replace hb1 := S9.other hb1 n_b1_b3
     replace hb2 := S9.other hb2 n_b2_b3
     replace hb4 := S9.other hb4 n_b3_b4.symm
     replace hb6 := S9.other hb6 n_b3_b6.symm
     replace hb8 := S9.other hb8 n_b3_b8.symm
     replace hO_8 := hO_8.set S9 (hO_8.neT hb3 rfl)
     replace hb3 : w21.heap[b3]? = some (.cells #[.int .i64 8, .int .i64 ((nx en ts).a), zS, zS, zI, zN, zN, zI, zS, zI, zN, zN, zI, zN, zI, zI, zS, zI, zN, zN, zI] 35) := S9.new
     replace hR := hR.setF S9 (.inr gb3)
     replace hB := Fr.below hR hB0 hB0.size hSge
     refine .ops0 ?_
     refine At.wpcN (.cons rfl rfl rfl rfl (fun Lx => ?_) (.cons rfl rfl rfl rfl (fun Lx => ?_) (.cons rfl rfl rfl rfl (fun Lx => ?_) (.cons rfl rfl rfl rfl (fun Lx => ?_) (.cons rfl rfl rfl rfl (fun Lx => ?_) (.cons rfl rfl rfl rfl (fun Lx => ?_) .nil)))))) ?_
     ·skip
      refine .move rfl rfl (.ops0 ?_)
      exact fun a ha => ⟨ha, rfl⟩
     ·skip
      refine .indexAddr (i := 0) rfl rfl (hO_8.strs).ok (lt_of_some hu3) el29 sz9 rfl (.ops0 ?_)
      exact fun a ha => ⟨ha, rfl⟩
     ·skip
      refine .load rfl (Ld.cell ag9 (cell_keep ((hO_8.strs).get hu3) (Below.refl _ _))) rfl (.ops0 ?_)
      exact fun a ha => ⟨ha, rfl⟩
     ·skip
      refine .move rfl rfl (.ops0 ?_)
      exact fun a ha => ⟨ha, rfl⟩
     ·skip
      refine .indexAddr (i := 1) rfl rfl (hO_8.strs).ok (lt_of_some hu4) el29 sz9 rfl (.ops0 ?_)
      exact fun a ha => ⟨ha, rfl⟩
     ·skip
      refine .load rfl (Ld.cell ag9 (cell_keep ((hO_8.strs).get hu4) (Below.refl _ _))) rfl (.ops0 ?_)
      exact fun a ha => ⟨ha, rfl⟩
     refine At.wpcS (i := 8) (d := 89) (.pointer (some ⟨b3, 0 + 2, none⟩)) (by kernel_rfl) rfl rfl rfl (fun Lx => ?_) ?_
     ·skip
      refine .fieldAddr rfl fo35_2 rfl (.ops0 ?_)
      exact fun a ha => ⟨ha, rfl⟩
     refine At.wpcE [9] (by kernel_rfl) (by kernel_rfl) (.cons [3, 4, 5] rfl (by kernel_rfl) ?_ .nil)
     refine At.store1 rfl rfl hb3 sz9 (by simp) rfl (fun w22 S10 => ?_)
     replace hb0 := S10.other hb0 n_b0_b3
     replace hb1 := S10.other hb1 n_b1_b3
     replace hb2 := S10.other hb2 n_b2_b3
     replace hb4 := S10.other hb4 n_b3_b4.symm
     replace hb6 := S10.other hb6 n_b3_b6.symm
     replace hb8 := S10.other hb8 n_b3_b8.symm
     replace hO_8 := hO_8.set S10 (hO_8.neT hb3 rfl)
     replace hb3 : w22.heap[b3]? = some (.cells #[.int .i64 8, .int .i64 ((nx en ts).a), .string u3, zS, zI, zN, zN, zI, zS, zI, zN, zN, zI, zN, zI, zI, zS, zI, zN, zN, zI] 35) := S10.new
     replace hR := hR.setF S10 (.inr gb3)
     replace hB := Fr.below hR hB0 hB0.size hSge
     refine .ops0 ?_
     refine At.wpcN (.cons rfl rfl rfl rfl (fun Lx => ?_) (.cons rfl rfl rfl rfl (fun Lx => ?_) (.cons rfl rfl rfl rfl (fun Lx => ?_) .nil))) ?_
     ·skip
      refine .move rfl rfl (.ops0 ?_)
      exact fun a ha => ⟨ha, rfl⟩
     ·skip
      refine .indexAddr (i := 1) rfl rfl (hO_8.strs).ok (lt_of_some hu4) el29 sz9 rfl (.ops0 ?_)
      exact fun a ha => ⟨ha, rfl⟩
     ·skip
      refine .load rfl (Ld.cell ag9 (cell_keep ((hO_8.strs).get hu4) (Below.refl _ _))) rfl (.ops0 ?_)
      exact fun a ha => ⟨ha, rfl⟩
     refine At.wpcS (i := 10) (d := 90) (.pointer (some ⟨b3, 0 + 3, none⟩)) (by kernel_rfl) rfl rfl rfl (fun Lx => ?_) ?_
     ·skip
      refine .fieldAddr rfl fo35_3 rfl (.ops0 ?_)
      exact fun a ha => ⟨ha, rfl⟩
     refine At.wpcE [11] (by kernel_rfl) (by kernel_rfl) (.cons [] rfl (by kernel_rfl) ?_ .nil)
     refine At.store1 rfl rfl hb3 sz9 (by simp) rfl (fun w23 S11 => ?_)
     replace hb0 := S11.other hb0 n_b0_b3
     replace hb1 := S11.other hb1 n_b1_b3
     replace hb2 := S11.other hb2 n_b2_b3
     replace hb4 := S11.other hb4 n_b3_b4.symm
     replace hb6 := S11.other hb6 n_b3_b6.symm
     replace hb8 := S11.other hb8 n_b3_b8.symm
     replace hO_8 := hO_8.set S11 (hO_8.neT hb3 rfl)
     replace hb3 : w23.heap[b3]? = some (.cells #[.int .i64 8, .int .i64 ((nx en ts).a), .string u3, .string u4, zI, zN, zN, zI, zS, zI, zN, zN, zI, zN, zI, zI, zS, zI, zN, zN, zI] 35) := S11.new
     replace hR := hR.setF S11 (.inr gb3)
     replace hB := Fr.below hR hB0 hB0.size hSge
     refine .ops0 (.wpcN .nil (.wpcZ (.thenN (.region (.move rfl rfl ?_)))))
     refine At.buildSlice (xs := [.const (.string (⟨#[61]⟩ : ByteArray)), .const (.string (⟨#[105, 110]⟩ : ByteArray))]) rfl rfl el29 sz9 ze9 (by intro v hv; simp only [List.mem_cons, List.not_mem_nil, or_false] at hv; rcases hv with rfl | rfl <;> first | rfl | simp [Value.cells]) rfl (by decide) rfl (fun b9 w24 F9 => ?_)
     have q_hO_8_b9 : some b9 ≠ Value.ownBlock val8 := Own.neFresh hO_8 F9
     have n_b0_b9 : b0 ≠ b9 := Nat.ne_of_lt (F9.lt hb0)
     have n_b1_b9 : b1 ≠ b9 := Nat.ne_of_lt (F9.lt hb1)
     have n_b2_b9 : b2 ≠ b9 := Nat.ne_of_lt (F9.lt hb2)
     have n_b3_b9 : b3 ≠ b9 := Nat.ne_of_lt (F9.lt hb3)
     have n_b4_b9 : b4 ≠ b9 := Nat.ne_of_lt (F9.lt hb4)
     have n_b6_b9 : b6 ≠ b9 := Nat.ne_of_lt (F9.lt hb6)
     have n_b8_b9 : b8 ≠ b9 := Nat.ne_of_lt (F9.lt hb8)
     have gb9 := Nat.le_trans hR.size (Nat.le_of_eq F9.eq.symm)
     replace hb0 := F9.old hb0
     replace hb1 := F9.old hb1
     replace hb2 := F9.old hb2
     replace hb3 := F9.old hb3
     replace hb4 := F9.old hb4
     replace hb6 := F9.old hb6
     replace hb8 := F9.old hb8
     replace hO_8 := hO_8.fresh F9
     have hb9 : w24.heap[b9]? = some (.cells #[.string (⟨#[61]⟩ : ByteArray), .string (⟨#[105, 110]⟩ : ByteArray)] 9) := F9.new
     replace hR := hR.freshF F9
     replace hB := Fr.below hR hB0 hB0.size hSge
     have hml9 : MLt w24.heap.size [some b0, some b1, some b2, some b3, some b4, some b6, some b8, some b9, Value.ownBlock val8] := (MLt.blk hb0 (MLt.blk hb1 (MLt.blk hb2 (MLt.blk hb3 (MLt.blk hb4 (MLt.blk hb6 (MLt.blk hb8 (MLt.blk hb9 (MLt.own hO_8 (MLt.nil _))))))))))
     have hsz9 := hR.size
     have hlt9_b2 := (Array.getElem?_eq_some_iff.1 hb2).1
     refine At.callVP rfl en73 rfl rfl (kids_any us8 vr8 [some b0, some b1, some b2, some b3, some b4, some b6, some b8, some b9, Value.ownBlock val8] b3 b1 8 ((nx en ts).a) u3 u4 0 (.slice (some ⟨b9, 0, none⟩) 2 2) ([(⟨#[61]⟩ : ByteArray), (⟨#[105, 110]⟩ : ByteArray)]) ex _ hB (fun k hk => hk.elim (fun e => hSge k e) (fun e => e ▸ Nat.le_trans hB0.size gb3)) hts8 hb0 hb3 hb1 (OwnS.made (ss := ([(⟨#[61]⟩ : ByteArray), (⟨#[105, 110]⟩ : ByteArray)])) hb9 rfl (by decide)) hml9 (by decide) (by have hz := hbig; have := tail_len (is_len hc4); have := PR.Le.of (names_le en 2 [] ts.tail) hq8; omega) hxs (hex hdp)) (fun e wp9 hR' => ?_)
     rcases hR'.cases.symm with ⟨ba, bc, hq9, rfl, hF9, hbb⟩ | ⟨x9, us9, val, vr9, hq9, rfl, hF9, hts9, hbo9, ho9⟩
     ·exact .inr ⟨_, rfl, (Exists.elim hbb fun vb h1 => Exists.elim h1 fun db hb9 => (Pk.block (Pk.then (Pk.bodyD1 (fun u => expr1_any _ u _ hb9 (hF9.old _ _ (by intro hk; first | exact n_b0_b1 hk.symm | (rcases hk with hk | hk; exact n_b0_b1 hk.symm; exact n_b1_b3 hk)) hb1)) (fun w9 hK => RetP.badThen (d := 0) (RetP.bad (by simp only [exprS, exB, listOne_eq, wayOne_eq, SB, hc1, hc2, hc3, hc4, hq8, hq9, getD_ofB hu3, getD_ofB hu4] <;> rfl) (Fr.then hR hF9 (fun k hk => hk.elim .inl (fun e => .inr (e ▸ gb3)))) hbb) hK.2 (fun k hk => hk) ⟨_, _, hK.1⟩)))))⟩
     refine .inl ⟨_, rfl, ?_⟩
     obtain ⟨rfl, hbp9, vg9, es9, hbx9, hO_9, gO_9, hX_9, hT_9, hnx9⟩ := ho9
     have q_hO_9_b2 : some b2 ≠ Value.ownBlock vg9 := fun e => by have h1 := gO_9 _ e.symm; omega
     replace gO_9 : ∀ g, Value.ownBlock vg9 = some g → w.heap.size ≤ g := fun g hg => Nat.le_trans hsz9 (gO_9 g hg)
     replace hb1 := hF9.old _ _ (fun hk => hk.elim (fun e => n_b0_b1 e.symm) (fun e => n_b1_b3.symm e.symm)) hb1
     replace hb2 := hF9.old _ _ (fun hk => hk.elim (fun e => n_b0_b2 e.symm) (fun e => n_b2_b3.symm e.symm)) hb2
     replace hb4 := hF9.old _ _ (fun hk => hk.elim (fun e => n_b0_b4 e.symm) (fun e => n_b3_b4 e.symm)) hb4
     replace hb6 := hF9.old _ _ (fun hk => hk.elim (fun e => n_b0_b6 e.symm) (fun e => n_b3_b6 e.symm)) hb6
     replace hb8 := hF9.old _ _ (fun hk => hk.elim (fun e => n_b0_b8 e.symm) (fun e => n_b3_b8 e.symm)) hb8
     replace hb9 := hF9.old _ _ (fun hk => hk.elim (fun e => n_b0_b9 e.symm) (fun e => n_b3_b9 e.symm)) hb9
     replace hO_8 := Own.frS hO_8 hF9 (fun g hg hk => hk.elim (fun e => by subst e; exact Own.neT hO_8 hb0 rfl hg.symm) (fun e => by subst e; exact Own.neT hO_8 hb3 rfl hg.symm))
     replace hb0 := hbo9
     have hb3 := hbx9
     replace hR := Fr.then hR hF9 (fun k hk => hk.elim .inl (fun e => .inr (e ▸ gb3)))
     replace hB := Fr.below hR hB0 hB0.size hSge
     replace hb3 : wp9.heap[b3]? = some (.cells #[.int .i64 8, .int .i64 ((nx en ts).a), .string u3, .string u4, zI, vg9, zN, zI, zS, zI, zN, zN, zI, zN, zI, zI, zS, zI, zN, zN, zI] 35) := hb3
     refine .ops0 (.inN (.thenN (.seq (.region (.load rfl (Ld.own (C := #[.int .i64 8, .int .i64 ((nx en ts).a), .string u3, .string u4, zI, vg9, zN, zI, zS, zI, zN, zN, zI, zN, zI, zI, zS, zI, zN, zN, zI]) ag35 sz35 hb3) rfl ?_)))))
     refine At.storeAll rfl rfl hb2 sz35 rfl (by first | (simp [Value.oneCell', (hO_9).one, ((SlOk.nil)).one]; done) | (simp only [List.all_toArray, List.all_cons, List.all_nil, (hO_9).one, ((SlOk.nil)).one, Bool.and_true, Bool.true_and]; rfl)) (fun w25 S12 => ?_)
     replace hb0 := S12.other hb0 n_b0_b2
     replace hb1 := S12.other hb1 n_b1_b2
     replace hb3 := S12.other hb3 n_b2_b3.symm
     replace hb4 := S12.other hb4 n_b2_b4.symm
     replace hb6 := S12.other hb6 n_b2_b6.symm
     replace hb8 := S12.other hb8 n_b2_b8.symm
     replace hb9 := S12.other hb9 n_b2_b9.symm
     replace hO_8 := hO_8.set S12 (hO_8.neT hb2 rfl)
     replace hO_9 := hO_9.set S12 q_hO_9_b2
     replace hX_9 := Xs.set hX_9 S12 (by simp)
     replace hb2 : w25.heap[b2]? = some (.cells #[.int .i64 8, .int .i64 ((nx en ts).a), .string u3, .string u4, zI, vg9, zN, zI, zS, zI, zN, zN, zI, zN, zI, zI, zS, zI, zN, zN, zI] 35) := S12.new
     replace hR := hR.setF S12 (.inr gb2)
     replace hB := Fr.below hR hB0 hB0.size hSge
     refine .ops0 (.thenN (.retc ?_))
     refine At.doneDR en72 (fun u => expr1_any _ u _ hb0 hb1) (fun w9 hK => ?_)
     obtain ⟨hb0n, hF9⟩ := hK
     replace hb1 := Fr.oldB hF9 hb1 (n_b0_b1.symm)
     replace hb2 := Fr.oldB hF9 hb2 (n_b0_b2.symm)
     replace hb3 := Fr.oldB hF9 hb3 (n_b0_b3.symm)
     replace hb4 := Fr.oldB hF9 hb4 (n_b0_b4.symm)
     replace hb6 := Fr.oldB hF9 hb6 (n_b0_b6.symm)
     replace hb8 := Fr.oldB hF9 hb8 (n_b0_b8.symm)
     replace hb9 := Fr.oldB hF9 hb9 (n_b0_b9.symm)
     replace hO_8 := OwnS.frB hO_8 hF9 hb0 rfl
     replace hO_9 := OwnR.frB hO_9 hF9 hb0 rfl
     replace hX_9 := Xs.frS hX_9 hF9 (by rintro k rfl; simp)
     rw [wrap_sub (by omega)] at hb0n
     replace hb0 := hb0n
     replace hR := Fr.then hR hF9 (fun k hk => .inl hk)
     refine ⟨_, ResV.cell rfl (Ld.own (C := #[.int .i64 8, .int .i64 ((nx en ts).a), .string u3, .string u4, zI, vg9, zN, zI, zS, zI, zN, zN, zI, zN, zI, zI, zS, zI, zN, zN, zI]) ag35 sz35 hb2) ResV.nil, ?_⟩
     exact RetP.ok (x := (ST.mk 8 ((nx en ts).a) u3 u4 0 x9 [])) (by simp only [exprS, exB, listOne_eq, wayOne_eq, SB, hc1, hc2, hc3, hc4, hq8, hq9, getD_ofB hu3, getD_ofB hu4] <;> rfl) hR hts9 hb0 ⟨(tmA 8 ((nx en ts).a) u3 u4 0 vg9 es9 zN []), rfl, (tmA_ok (OwnR.rows hO_9 (fun u hu => (((Xs.ok hX_9)) u hu).size)) (Xs.ok (Xs.weaken (M' := []) hX_9 SubM.nil)) (RowsAt.nil _ 23) (Xs.ok (Xs.nil kAm [] _))), (MT.made (k := 8) (a := (nx en ts).a) (nm := u3) (pm := u4) (n := 0) (MTL.mono hT_9 hsz9) (MAL.nil w) (fun hn => OwnR.vbGe hO_9 gO_9 hn) (fun h => absurd rfl h))⟩
    ·skip
     refine .seq (.region (.load rfl (Ld.ownCell ag77 hb1 rfl) rfl (.nilCheck rfl rfl (.fieldAddr rfl fo81_0 rfl ?_))))
     refine At.buildSlice (xs := [.const (.string (⟨#[105, 102]⟩ : ByteArray))]) rfl rfl el29 sz9 ze9 (by intro v hv; simp only [List.mem_cons, List.not_mem_nil, or_false] at hv; rcases hv with rfl <;> first | rfl | simp [Value.cells]) rfl (by decide) rfl (fun b10 w26 F10 => ?_)
     have n_b0_b10 : b0 ≠ b10 := Nat.ne_of_lt (F10.lt hb0)
     have n_b1_b10 : b1 ≠ b10 := Nat.ne_of_lt (F10.lt hb1)
     have n_b2_b10 : b2 ≠ b10 := Nat.ne_of_lt (F10.lt hb2)
     have n_b3_b10 : b3 ≠ b10 := Nat.ne_of_lt (F10.lt hb3)
     have n_b4_b10 : b4 ≠ b10 := Nat.ne_of_lt (F10.lt hb4)
     have n_b6_b10 : b6 ≠ b10 := Nat.ne_of_lt (F10.lt hb6)
     have n_b8_b10 : b8 ≠ b10 := Nat.ne_of_lt (F10.lt hb8)
     have gb10 := Nat.le_trans hR.size (Nat.le_of_eq F10.eq.symm)
     replace hb0 := F10.old hb0
     replace hb1 := F10.old hb1
     replace hb2 := F10.old hb2
     replace hb3 := F10.old hb3
     replace hb4 := F10.old hb4
     replace hb6 := F10.old hb6
     replace hb8 := F10.old hb8
     have hb10 : w26.heap[b10]? = some (.cells #[.string (⟨#[105, 102]⟩ : ByteArray)] 9) := F10.new
     replace hR := hR.freshF F10
     replace hB := Fr.below hR hB0 hB0.size hSge
     refine At.call en43 rfl rfl (is_any ts v (.slice (some ⟨b10, 0, none⟩) 1 1) ([(⟨#[105, 102]⟩ : ByteArray)]) _ ((hts).keep hB) hb0 ((StrsAt.own (ss := [(⟨#[105, 102]⟩ : ByteArray)]) hb10 rfl (by decide) : StrsAt _ (.slice (some ⟨b10, 0, none⟩) 1 1) [(⟨#[105, 102]⟩ : ByteArray)]))) (fun e w27 hR' => ?_)
     obtain ⟨rfl, hbl5⟩ := hR'
     refine ⟨_, rfl, ?_⟩
     replace hb0 := Below.old hbl5 hb0
     replace hb1 := Below.old hbl5 hb1
     replace hb2 := Below.old hbl5 hb2
     replace hb3 := Below.old hbl5 hb3
     replace hb4 := Below.old hbl5 hb4
     replace hb6 := Below.old hbl5 hb6
     replace hb8 := Below.old hbl5 hb8
     replace hb10 := Below.old hbl5 hb10
     replace hR := hR.callF hbl5
     replace hB := Fr.below hR hB0 hB0.size hSge
     refine .assign rfl rfl (.ops0 (.thenN ?_))
     refine At.cond (b := (isK en ts ([(⟨#[105, 102]⟩ : ByteArray)]))) rfl (fun hc5 => ?_) (fun hc5 => ?_)
     ·skip
      refine .seq (.region (.fieldAddr rfl fo35_0 rfl ?_))
      refine At.store1 rfl rfl hb3 sz3 (by simp) rfl (fun w28 S13 => ?_)
      replace hb0 := S13.other hb0 n_b0_b3
      replace hb1 := S13.other hb1 n_b1_b3
      replace hb2 := S13.other hb2 n_b2_b3
      replace hb4 := S13.other hb4 n_b3_b4.symm
      replace hb6 := S13.other hb6 n_b3_b6.symm
      replace hb8 := S13.other hb8 n_b3_b8.symm
      replace hb10 := S13.other hb10 n_b3_b10.symm
      replace hb3 : w28.heap[b3]? = some (.cells #[.int .i64 9, .int .i64 ((nx en ts).a), zS, zS, zI, zN, zN, zI, zS, zI, zN, zN, zI, zN, zI, zI, zS, zI, zN, zN, zI] 35) := S13.new
      replace hR := hR.setF S13 (.inr gb3)
      replace hB := Fr.below hR hB0 hB0.size hSge
      refine .ops0 (.thenN (.region (.move rfl rfl ?_)))
      refine At.buildSlice (xs := [.const (.string (⟨#[105, 102]⟩ : ByteArray)), .const (.string (⟨#[116, 104, 101, 110]⟩ : ByteArray)), .const (.string (⟨#[101, 108, 115, 101]⟩ : ByteArray))]) rfl rfl el29 sz9 ze9 (by intro v hv; simp only [List.mem_cons, List.not_mem_nil, or_false] at hv; rcases hv with rfl | rfl | rfl <;> first | rfl | simp [Value.cells]) rfl (by decide) rfl (fun b11 w29 F11 => ?_)
      have n_b0_b11 : b0 ≠ b11 := Nat.ne_of_lt (F11.lt hb0)
      have n_b1_b11 : b1 ≠ b11 := Nat.ne_of_lt (F11.lt hb1)
      have n_b2_b11 : b2 ≠ b11 := Nat.ne_of_lt (F11.lt hb2)
      have n_b3_b11 : b3 ≠ b11 := Nat.ne_of_lt (F11.lt hb3)
      have n_b4_b11 : b4 ≠ b11 := Nat.ne_of_lt (F11.lt hb4)
      have n_b6_b11 : b6 ≠ b11 := Nat.ne_of_lt (F11.lt hb6)
      have n_b8_b11 : b8 ≠ b11 := Nat.ne_of_lt (F11.lt hb8)
      have n_b10_b11 : b10 ≠ b11 := Nat.ne_of_lt (F11.lt hb10)
      have gb11 := Nat.le_trans hR.size (Nat.le_of_eq F11.eq.symm)
      replace hb0 := F11.old hb0
      replace hb1 := F11.old hb1
      replace hb2 := F11.old hb2
      replace hb3 := F11.old hb3
      replace hb4 := F11.old hb4
      replace hb6 := F11.old hb6
      replace hb8 := F11.old hb8
      replace hb10 := F11.old hb10
      have hb11 : w29.heap[b11]? = some (.cells #[.string (⟨#[105, 102]⟩ : ByteArray), .string (⟨#[116, 104, 101, 110]⟩ : ByteArray), .string (⟨#[101, 108, 115, 101]⟩ : ByteArray)] 9) := F11.new
      replace hR := hR.freshF F11
      replace hB := Fr.below hR hB0 hB0.size hSge
      have hml10 : MLt w29.heap.size [some b0, some b1, some b2, some b3, some b4, some b6, some b8, some b10, some b11] := (MLt.blk hb0 (MLt.blk hb1 (MLt.blk hb2 (MLt.blk hb3 (MLt.blk hb4 (MLt.blk hb6 (MLt.blk hb8 (MLt.blk hb10 (MLt.blk hb11 (MLt.nil _))))))))))
      have hsz10 := hR.size
      have hlt10_b2 := (Array.getElem?_eq_some_iff.1 hb2).1
      refine At.callVP rfl en73 rfl rfl (kids_any ts v [some b0, some b1, some b2, some b3, some b4, some b6, some b8, some b10, some b11] b3 b1 9 ((nx en ts).a) (⟨#[]⟩ : ByteArray) (⟨#[]⟩ : ByteArray) 0 (.slice (some ⟨b11, 0, none⟩) 3 3) ([(⟨#[105, 102]⟩ : ByteArray), (⟨#[116, 104, 101, 110]⟩ : ByteArray), (⟨#[101, 108, 115, 101]⟩ : ByteArray)]) ex _ hB (fun k hk => hk.elim (fun e => hSge k e) (fun e => e ▸ Nat.le_trans hB0.size gb3)) hts hb0 hb3 hb1 (OwnS.made (ss := ([(⟨#[105, 102]⟩ : ByteArray), (⟨#[116, 104, 101, 110]⟩ : ByteArray), (⟨#[101, 108, 115, 101]⟩ : ByteArray)])) hb11 rfl (by decide)) hml10 (by decide) (hbig) hxs (hex hdp)) (fun e wp10 hR' => ?_)
      rcases hR'.cases.symm with ⟨ba, bc, hq10, rfl, hF10, hbb⟩ | ⟨x10, us10, val, vr10, hq10, rfl, hF10, hts10, hbo10, ho10⟩
      ·exact .inr ⟨_, rfl, (Exists.elim hbb fun vb h1 => Exists.elim h1 fun db hb9 => (Pk.block (Pk.then (Pk.bodyD1 (fun u => expr1_any _ u _ hb9 (hF10.old _ _ (by intro hk; first | exact n_b0_b1 hk.symm | (rcases hk with hk | hk; exact n_b0_b1 hk.symm; exact n_b1_b3 hk)) hb1)) (fun w9 hK => RetP.badThen (d := 0) (RetP.bad (by simp only [exprS, exB, listOne_eq, wayOne_eq, SB, hc1, hc2, hc3, hc4, hc5, hq10] <;> rfl) (Fr.then hR hF10 (fun k hk => hk.elim .inl (fun e => .inr (e ▸ gb3)))) hbb) hK.2 (fun k hk => hk) ⟨_, _, hK.1⟩)))))⟩
      refine .inl ⟨_, rfl, ?_⟩
      obtain ⟨rfl, hbp10, vg10, es10, hbx10, hO_10, gO_10, hX_10, hT_10, hnx10⟩ := ho10
      have q_hO_10_b2 : some b2 ≠ Value.ownBlock vg10 := fun e => by have h1 := gO_10 _ e.symm; omega
      replace gO_10 : ∀ g, Value.ownBlock vg10 = some g → w.heap.size ≤ g := fun g hg => Nat.le_trans hsz10 (gO_10 g hg)
      replace hb1 := hF10.old _ _ (fun hk => hk.elim (fun e => n_b0_b1 e.symm) (fun e => n_b1_b3.symm e.symm)) hb1
      replace hb2 := hF10.old _ _ (fun hk => hk.elim (fun e => n_b0_b2 e.symm) (fun e => n_b2_b3.symm e.symm)) hb2
      replace hb4 := hF10.old _ _ (fun hk => hk.elim (fun e => n_b0_b4 e.symm) (fun e => n_b3_b4 e.symm)) hb4
      replace hb6 := hF10.old _ _ (fun hk => hk.elim (fun e => n_b0_b6 e.symm) (fun e => n_b3_b6 e.symm)) hb6
      replace hb8 := hF10.old _ _ (fun hk => hk.elim (fun e => n_b0_b8 e.symm) (fun e => n_b3_b8 e.symm)) hb8
      replace hb10 := hF10.old _ _ (fun hk => hk.elim (fun e => n_b0_b10 e.symm) (fun e => n_b3_b10 e.symm)) hb10
      replace hb11 := hF10.old _ _ (fun hk => hk.elim (fun e => n_b0_b11 e.symm) (fun e => n_b3_b11 e.symm)) hb11
      replace hb0 := hbo10
      have hb3 := hbx10
      replace hR := Fr.then hR hF10 (fun k hk => hk.elim .inl (fun e => .inr (e ▸ gb3)))
      replace hB := Fr.below hR hB0 hB0.size hSge
      replace hb3 : wp10.heap[b3]? = some (.cells #[.int .i64 9, .int .i64 ((nx en ts).a), zS, zS, zI, vg10, zN, zI, zS, zI, zN, zN, zI, zN, zI, zI, zS, zI, zN, zN, zI] 35) := hb3
      refine .ops0 (.inN (.thenN (.seq (.region (.load rfl (Ld.own (C := #[.int .i64 9, .int .i64 ((nx en ts).a), zS, zS, zI, vg10, zN, zI, zS, zI, zN, zN, zI, zN, zI, zI, zS, zI, zN, zN, zI]) ag35 sz35 hb3) rfl ?_)))))
      refine At.storeAll rfl rfl hb2 sz35 rfl (by first | (simp [Value.oneCell', (hO_10).one, ((SlOk.nil)).one]; done) | (simp only [List.all_toArray, List.all_cons, List.all_nil, (hO_10).one, ((SlOk.nil)).one, Bool.and_true, Bool.true_and]; rfl)) (fun w30 S14 => ?_)
      replace hb0 := S14.other hb0 n_b0_b2
      replace hb1 := S14.other hb1 n_b1_b2
      replace hb3 := S14.other hb3 n_b2_b3.symm
      replace hb4 := S14.other hb4 n_b2_b4.symm
      replace hb6 := S14.other hb6 n_b2_b6.symm
      replace hb8 := S14.other hb8 n_b2_b8.symm
      replace hb10 := S14.other hb10 n_b2_b10.symm
      replace hb11 := S14.other hb11 n_b2_b11.symm
      replace hO_10 := hO_10.set S14 q_hO_10_b2
      replace hX_10 := Xs.set hX_10 S14 (by simp)
      replace hb2 : w30.heap[b2]? = some (.cells #[.int .i64 9, .int .i64 ((nx en ts).a), zS, zS, zI, vg10, zN, zI, zS, zI, zN, zN, zI, zN, zI, zI, zS, zI, zN, zN, zI] 35) := S14.new
      replace hR := hR.setF S14 (.inr gb2)
      replace hB := Fr.below hR hB0 hB0.size hSge
      refine .ops0 (.thenN (.retc ?_))
      refine At.doneDR en72 (fun u => expr1_any _ u _ hb0 hb1) (fun w9 hK => ?_)
      obtain ⟨hb0n, hF9⟩ := hK
      replace hb1 := Fr.oldB hF9 hb1 (n_b0_b1.symm)
      replace hb2 := Fr.oldB hF9 hb2 (n_b0_b2.symm)
      replace hb3 := Fr.oldB hF9 hb3 (n_b0_b3.symm)
      replace hb4 := Fr.oldB hF9 hb4 (n_b0_b4.symm)
      replace hb6 := Fr.oldB hF9 hb6 (n_b0_b6.symm)
      replace hb8 := Fr.oldB hF9 hb8 (n_b0_b8.symm)
      replace hb10 := Fr.oldB hF9 hb10 (n_b0_b10.symm)
      replace hb11 := Fr.oldB hF9 hb11 (n_b0_b11.symm)
      replace hO_10 := OwnR.frB hO_10 hF9 hb0 rfl
      replace hX_10 := Xs.frS hX_10 hF9 (by rintro k rfl; simp)
      rw [wrap_sub (by omega)] at hb0n
      replace hb0 := hb0n
      replace hR := Fr.then hR hF9 (fun k hk => .inl hk)
      refine ⟨_, ResV.cell rfl (Ld.own (C := #[.int .i64 9, .int .i64 ((nx en ts).a), zS, zS, zI, vg10, zN, zI, zS, zI, zN, zN, zI, zN, zI, zI, zS, zI, zN, zN, zI]) ag35 sz35 hb2) ResV.nil, ?_⟩
      exact RetP.ok (x := (ST.mk 9 ((nx en ts).a) (⟨#[]⟩ : ByteArray) (⟨#[]⟩ : ByteArray) 0 x10 [])) (by simp only [exprS, exB, listOne_eq, wayOne_eq, SB, hc1, hc2, hc3, hc4, hc5, hq10] <;> rfl) hR hts10 hb0 ⟨(tmA 9 ((nx en ts).a) (⟨#[]⟩ : ByteArray) (⟨#[]⟩ : ByteArray) 0 vg10 es10 zN []), rfl, (tmA_ok (OwnR.rows hO_10 (fun u hu => (((Xs.ok hX_10)) u hu).size)) (Xs.ok (Xs.weaken (M' := []) hX_10 SubM.nil)) (RowsAt.nil _ 23) (Xs.ok (Xs.nil kAm [] _))), (MT.made (k := 9) (a := (nx en ts).a) (nm := (⟨#[]⟩ : ByteArray)) (pm := (⟨#[]⟩ : ByteArray)) (n := 0) (MTL.mono hT_10 hsz10) (MAL.nil w) (fun hn => OwnR.vbGe hO_10 gO_10 hn) (fun h => absurd rfl h))⟩
     ·skip
      refine .seq (.region (.load rfl (Ld.ownCell ag77 hb1 rfl) rfl (.nilCheck rfl rfl (.fieldAddr rfl fo81_0 rfl ?_))))
      refine At.buildSlice (xs := [.const (.string (⟨#[109, 97, 116, 99, 104]⟩ : ByteArray))]) rfl rfl el29 sz9 ze9 (by intro v hv; simp only [List.mem_cons, List.not_mem_nil, or_false] at hv; rcases hv with rfl <;> first | rfl | simp [Value.cells]) rfl (by decide) rfl (fun b12 w31 F12 => ?_)
      have n_b0_b12 : b0 ≠ b12 := Nat.ne_of_lt (F12.lt hb0)
      have n_b1_b12 : b1 ≠ b12 := Nat.ne_of_lt (F12.lt hb1)
      have n_b2_b12 : b2 ≠ b12 := Nat.ne_of_lt (F12.lt hb2)
      have n_b3_b12 : b3 ≠ b12 := Nat.ne_of_lt (F12.lt hb3)
      have n_b4_b12 : b4 ≠ b12 := Nat.ne_of_lt (F12.lt hb4)
      have n_b6_b12 : b6 ≠ b12 := Nat.ne_of_lt (F12.lt hb6)
      have n_b8_b12 : b8 ≠ b12 := Nat.ne_of_lt (F12.lt hb8)
      have n_b10_b12 : b10 ≠ b12 := Nat.ne_of_lt (F12.lt hb10)
      have gb12 := Nat.le_trans hR.size (Nat.le_of_eq F12.eq.symm)
      replace hb0 := F12.old hb0
      replace hb1 := F12.old hb1
      replace hb2 := F12.old hb2
      replace hb3 := F12.old hb3
      replace hb4 := F12.old hb4
      replace hb6 := F12.old hb6
      replace hb8 := F12.old hb8
      replace hb10 := F12.old hb10
      have hb12 : w31.heap[b12]? = some (.cells #[.string (⟨#[109, 97, 116, 99, 104]⟩ : ByteArray)] 9) := F12.new
      replace hR := hR.freshF F12
      replace hB := Fr.below hR hB0 hB0.size hSge
      refine At.call en43 rfl rfl (is_any ts v (.slice (some ⟨b12, 0, none⟩) 1 1) ([(⟨#[109, 97, 116, 99, 104]⟩ : ByteArray)]) _ ((hts).keep hB) hb0 ((StrsAt.own (ss := [(⟨#[109, 97, 116, 99, 104]⟩ : ByteArray)]) hb12 rfl (by decide) : StrsAt _ (.slice (some ⟨b12, 0, none⟩) 1 1) [(⟨#[109, 97, 116, 99, 104]⟩ : ByteArray)]))) (fun e w32 hR' => ?_)
      obtain ⟨rfl, hbl6⟩ := hR'
      refine ⟨_, rfl, ?_⟩
      replace hb0 := Below.old hbl6 hb0
      replace hb1 := Below.old hbl6 hb1
      replace hb2 := Below.old hbl6 hb2
      replace hb3 := Below.old hbl6 hb3
      replace hb4 := Below.old hbl6 hb4
      replace hb6 := Below.old hbl6 hb6
      replace hb8 := Below.old hbl6 hb8
      replace hb10 := Below.old hbl6 hb10
      replace hb12 := Below.old hbl6 hb12
      replace hR := hR.callF hbl6
      replace hB := Fr.below hR hB0 hB0.size hSge
      refine .assign rfl rfl (.ops0 (.thenN ?_))
      refine At.cond (b := (isK en ts ([(⟨#[109, 97, 116, 99, 104]⟩ : ByteArray)]))) rfl (fun hc6 => ?_) (fun hc6 => ?_)
      ·skip
       refine .seq (.region (.fieldAddr rfl fo35_0 rfl ?_))
       refine At.store1 rfl rfl hb3 sz3 (by simp) rfl (fun w33 S15 => ?_)
       replace hb0 := S15.other hb0 n_b0_b3
       replace hb1 := S15.other hb1 n_b1_b3
       replace hb2 := S15.other hb2 n_b2_b3
       replace hb4 := S15.other hb4 n_b3_b4.symm
       replace hb6 := S15.other hb6 n_b3_b6.symm
       replace hb8 := S15.other hb8 n_b3_b8.symm
       replace hb10 := S15.other hb10 n_b3_b10.symm
       replace hb12 := S15.other hb12 n_b3_b12.symm
       replace hb3 : w33.heap[b3]? = some (.cells #[.int .i64 12, .int .i64 ((nx en ts).a), zS, zS, zI, zN, zN, zI, zS, zI, zN, zN, zI, zN, zI, zI, zS, zI, zN, zN, zI] 35) := S15.new
       replace hR := hR.setF S15 (.inr gb3)
       replace hB := Fr.below hR hB0 hB0.size hSge
       refine .ops0 (.thenN (.seq (.region (.move rfl rfl ?_))))
       refine At.buildSlice (xs := [.const (.string (⟨#[109, 97, 116, 99, 104]⟩ : ByteArray))]) rfl rfl el29 sz9 ze9 (by intro v hv; simp only [List.mem_cons, List.not_mem_nil, or_false] at hv; rcases hv with rfl <;> first | rfl | simp [Value.cells]) rfl (by decide) rfl (fun b13 w34 F13 => ?_)
       have n_b0_b13 : b0 ≠ b13 := Nat.ne_of_lt (F13.lt hb0)
       have n_b1_b13 : b1 ≠ b13 := Nat.ne_of_lt (F13.lt hb1)
       have n_b2_b13 : b2 ≠ b13 := Nat.ne_of_lt (F13.lt hb2)
       have n_b3_b13 : b3 ≠ b13 := Nat.ne_of_lt (F13.lt hb3)
       have n_b4_b13 : b4 ≠ b13 := Nat.ne_of_lt (F13.lt hb4)
       have n_b6_b13 : b6 ≠ b13 := Nat.ne_of_lt (F13.lt hb6)
       have n_b8_b13 : b8 ≠ b13 := Nat.ne_of_lt (F13.lt hb8)
       have n_b10_b13 : b10 ≠ b13 := Nat.ne_of_lt (F13.lt hb10)
       have n_b12_b13 : b12 ≠ b13 := Nat.ne_of_lt (F13.lt hb12)
       have gb13 := Nat.le_trans hR.size (Nat.le_of_eq F13.eq.symm)
       replace hb0 := F13.old hb0
       replace hb1 := F13.old hb1
       replace hb2 := F13.old hb2
       replace hb3 := F13.old hb3
       replace hb4 := F13.old hb4
       replace hb6 := F13.old hb6
       replace hb8 := F13.old hb8
       replace hb10 := F13.old hb10
       replace hb12 := F13.old hb12
       have hb13 : w34.heap[b13]? = some (.cells #[.string (⟨#[109, 97, 116, 99, 104]⟩ : ByteArray)] 9) := F13.new
       replace hR := hR.freshF F13
       replace hB := Fr.below hR hB0 hB0.size hSge
       have hml11 : MLt w34.heap.size [some b0, some b1, some b2, some b3, some b4, some b6, some b8, some b10, some b12, some b13] := (MLt.blk hb0 (MLt.blk hb1 (MLt.blk hb2 (MLt.blk hb3 (MLt.blk hb4 (MLt.blk hb6 (MLt.blk hb8 (MLt.blk hb10 (MLt.blk hb12 (MLt.blk hb13 (MLt.nil _)))))))))))
       have hsz11 := hR.size
       have hlt11_b2 := (Array.getElem?_eq_some_iff.1 hb2).1
       refine At.callVP rfl en73 rfl rfl (kids_any ts v [some b0, some b1, some b2, some b3, some b4, some b6, some b8, some b10, some b12, some b13] b3 b1 12 ((nx en ts).a) (⟨#[]⟩ : ByteArray) (⟨#[]⟩ : ByteArray) 0 (.slice (some ⟨b13, 0, none⟩) 1 1) ([(⟨#[109, 97, 116, 99, 104]⟩ : ByteArray)]) ex _ hB (fun k hk => hk.elim (fun e => hSge k e) (fun e => e ▸ Nat.le_trans hB0.size gb3)) hts hb0 hb3 hb1 (OwnS.made (ss := ([(⟨#[109, 97, 116, 99, 104]⟩ : ByteArray)])) hb13 rfl (by decide)) hml11 (by decide) (hbig) hxs (hex hdp)) (fun e wp11 hR' => ?_)
       rcases hR'.cases.symm with ⟨ba, bc, hq11, rfl, hF11, hbb⟩ | ⟨x11, us11, val, vr11, hq11, rfl, hF11, hts11, hbo11, ho11⟩
       ·exact .inr ⟨_, rfl, (Exists.elim hbb fun vb h1 => Exists.elim h1 fun db hb9 => (Pk.then (Pk.block (Pk.then (Pk.bodyD1 (fun u => expr1_any _ u _ hb9 (hF11.old _ _ (by intro hk; first | exact n_b0_b1 hk.symm | (rcases hk with hk | hk; exact n_b0_b1 hk.symm; exact n_b1_b3 hk)) hb1)) (fun w9 hK => RetP.badThen (d := 0) (RetP.bad (by simp only [exprS, exB, listOne_eq, wayOne_eq, SB, hc1, hc2, hc3, hc4, hc5, hc6, hq11] <;> rfl) (Fr.then hR hF11 (fun k hk => hk.elim .inl (fun e => .inr (e ▸ gb3)))) hbb) hK.2 (fun k hk => hk) ⟨_, _, hK.1⟩))))))⟩
       refine .inl ⟨_, rfl, ?_⟩
       obtain ⟨rfl, hbp11, vg11, es11, hbx11, hO_11, gO_11, hX_11, hT_11, hnx11⟩ := ho11
       have q_hO_11_b2 : some b2 ≠ Value.ownBlock vg11 := fun e => by have h1 := gO_11 _ e.symm; omega
       replace gO_11 : ∀ g, Value.ownBlock vg11 = some g → w.heap.size ≤ g := fun g hg => Nat.le_trans hsz11 (gO_11 g hg)
       replace hb1 := hF11.old _ _ (fun hk => hk.elim (fun e => n_b0_b1 e.symm) (fun e => n_b1_b3.symm e.symm)) hb1
       replace hb2 := hF11.old _ _ (fun hk => hk.elim (fun e => n_b0_b2 e.symm) (fun e => n_b2_b3.symm e.symm)) hb2
       replace hb4 := hF11.old _ _ (fun hk => hk.elim (fun e => n_b0_b4 e.symm) (fun e => n_b3_b4 e.symm)) hb4
       replace hb6 := hF11.old _ _ (fun hk => hk.elim (fun e => n_b0_b6 e.symm) (fun e => n_b3_b6 e.symm)) hb6
       replace hb8 := hF11.old _ _ (fun hk => hk.elim (fun e => n_b0_b8 e.symm) (fun e => n_b3_b8 e.symm)) hb8
       replace hb10 := hF11.old _ _ (fun hk => hk.elim (fun e => n_b0_b10 e.symm) (fun e => n_b3_b10 e.symm)) hb10
       replace hb12 := hF11.old _ _ (fun hk => hk.elim (fun e => n_b0_b12 e.symm) (fun e => n_b3_b12 e.symm)) hb12
       replace hb13 := hF11.old _ _ (fun hk => hk.elim (fun e => n_b0_b13 e.symm) (fun e => n_b3_b13 e.symm)) hb13
       replace hb0 := hbo11
       have hb3 := hbx11
       replace hR := Fr.then hR hF11 (fun k hk => hk.elim .inl (fun e => .inr (e ▸ gb3)))
       replace hB := Fr.below hR hB0 hB0.size hSge
       replace hb3 : wp11.heap[b3]? = some (.cells #[.int .i64 12, .int .i64 ((nx en ts).a), zS, zS, zI, vg11, zN, zI, zS, zI, zN, zN, zI, zN, zI, zI, zS, zI, zN, zN, zI] 35) := hb3
       refine .ops0 (.thenN (.region (.load rfl (Ld.ownCell ag77 hb1 rfl) rfl (.makeFunc rfl rfl ?_))))
       have hml12 : MLt wp11.heap.size [some b0, some b1, some b2, some b3, some b4, some b6, some b8, some b10, some b12, some b13, Value.ownBlock vg11] := (MLt.blk hb0 (MLt.blk hb1 (MLt.blk hb2 (MLt.blk hb3 (MLt.blk hb4 (MLt.blk hb6 (MLt.blk hb8 (MLt.blk hb10 (MLt.blk hb12 (MLt.blk hb13 (MLt.own hO_11 (MLt.nil _))))))))))))
       have hsz12 := hR.size
       have hsy12 : us11.length ≤ ts.length := by have := PR.Le.of (kids_le hxs ([(⟨#[109, 97, 116, 99, 104]⟩ : ByteArray)]) [] ts) hq11; omega
       refine At.callP en67 rfl rfl (grow_list kAm 61 23 Am.cs MA [some b0, some b1, some b2, some b3, some b4, some b6, some b8, some b10, some b12, some b13, Value.ownBlock vg11] (fun v => #[.int .i64 12, .int .i64 ((nx en ts).a), zS, zS, zI, vg11, v, zI, zS, zI, zN, zN, zI, zN, zI, zI, zS, zI, zN, zN, zI]) b3 35 b1 us11 vr11 (⟨#[123]⟩ : ByteArray) (⟨#[59]⟩ : ByteArray) (⟨#[125]⟩ : ByteArray) (wayP en ex) 76 _ hB hSge hts11 hb0 en76 [.pointer (some ⟨b3, 0, none⟩), .pointer (some ⟨b1, 0, none⟩)] rfl rfl rfl hml12 (Nat.le_trans hB0.size gb3) hb3 hb1 (fun _ _ _ _ hs h => MA.mono h hs) (way_sh hxs) (fun us vr v es w1 h1 h2 h3 h4 h5 h6 h7 h8 h9 h10 h11 => expr3_any us vr [some b0, some b1, some b2, some b3, some b4, some b6, some b8, some b10, some b12, some b13, Value.ownBlock vg11] b3 b1 v es ex 12 ((nx en ts).a) (⟨#[]⟩ : ByteArray) (⟨#[]⟩ : ByteArray) 0 vg11 w1 h1 h2 h3 h4 h5 h6 h7 h8 h9 (by omega) h11 hxs (hex hdp))) (fun e wp12 hR' => ?_)
       rcases hR'.cases.symm with ⟨ba, bc, hq12, rfl, hF12, hbb⟩ | ⟨x12, us12, val, vr12, hq12, rfl, hF12, hts12, hbo12, ho12⟩
       ·exact .inr ⟨_, rfl, (Exists.elim hbb fun vb h1 => Exists.elim h1 fun db hb9 => (Pk.block (Pk.then (Pk.bodyD1 (fun u => expr1_any _ u _ hb9 (hF12.old _ _ (by intro hk; first | exact n_b0_b1 hk.symm | (rcases hk with hk | hk; exact n_b0_b1 hk.symm; exact n_b1_b3 hk)) hb1)) (fun w9 hK => RetP.badThen (d := 0) (RetP.bad (by simp only [exprS, exB, listOne_eq, wayOne_eq, SB, hc1, hc2, hc3, hc4, hc5, hc6, hq11, hq12] <;> rfl) (Fr.then hR hF12 (fun k hk => hk.elim .inl (fun e => .inr (e ▸ gb3)))) hbb) hK.2 (fun k hk => hk) ⟨_, _, hK.1⟩)))))⟩
       refine .inl ⟨_, rfl, ?_⟩
       obtain ⟨rfl, _, vg12, es12, hbx12, hO_12, gO_12, hX_12, hA_12, hlen12, hbp12, hsw12, hnx12⟩ := ho12
       replace gO_12 : ∀ g, Value.ownBlock vg12 = some g → w.heap.size ≤ g := fun g hg => Nat.le_trans hsz12 (gO_12 g hg)
       replace hb1 := hF12.old _ _ (fun hk => hk.elim (fun e => n_b0_b1 e.symm) (fun e => n_b1_b3.symm e.symm)) hb1
       replace hb2 := hF12.old _ _ (fun hk => hk.elim (fun e => n_b0_b2 e.symm) (fun e => n_b2_b3.symm e.symm)) hb2
       replace hb4 := hF12.old _ _ (fun hk => hk.elim (fun e => n_b0_b4 e.symm) (fun e => n_b3_b4 e.symm)) hb4
       replace hb6 := hF12.old _ _ (fun hk => hk.elim (fun e => n_b0_b6 e.symm) (fun e => n_b3_b6 e.symm)) hb6
       replace hb8 := hF12.old _ _ (fun hk => hk.elim (fun e => n_b0_b8 e.symm) (fun e => n_b3_b8 e.symm)) hb8
       replace hb10 := hF12.old _ _ (fun hk => hk.elim (fun e => n_b0_b10 e.symm) (fun e => n_b3_b10 e.symm)) hb10
       replace hb12 := hF12.old _ _ (fun hk => hk.elim (fun e => n_b0_b12 e.symm) (fun e => n_b3_b12 e.symm)) hb12
       replace hb13 := hF12.old _ _ (fun hk => hk.elim (fun e => n_b0_b13 e.symm) (fun e => n_b3_b13 e.symm)) hb13
       replace hO_11 := Own.frS hO_11 hF12 (fun g hg hk => hk.elim (fun e => by subst e; exact Own.neT hO_11 hb0 rfl hg.symm) (fun e => by subst e; exact hnx11 hg.symm))
       replace hX_11 := Xs.frS hX_11 hF12 (by rintro k (rfl | rfl) <;> simp)
       replace hb0 := hbo12
       have hb3 := hbx12
       replace hR := Fr.then hR hF12 (fun k hk => hk.elim .inl (fun e => .inr (e ▸ gb3)))
       replace hB := Fr.below hR hB0 hB0.size hSge
       replace hb3 : wp12.heap[b3]? = some (.cells #[.int .i64 12, .int .i64 ((nx en ts).a), zS, zS, zI, vg11, vg12, zI, zS, zI, zN, zN, zI, zN, zI, zI, zS, zI, zN, zN, zI] 35) := hb3
       refine .ops0 (.inN (.thenN (.seq (.region (.load rfl (Ld.own (C := #[.int .i64 12, .int .i64 ((nx en ts).a), zS, zS, zI, vg11, vg12, zI, zS, zI, zN, zN, zI, zN, zI, zI, zS, zI, zN, zN, zI]) ag35 sz35 hb3) rfl ?_)))))
       refine At.storeAll rfl rfl hb2 sz35 rfl (by first | (simp [Value.oneCell', (hO_11).one, (hO_12).one, ((SlOk.nil)).one]; done) | (simp only [List.all_toArray, List.all_cons, List.all_nil, (hO_11).one, (hO_12).one, ((SlOk.nil)).one, Bool.and_true, Bool.true_and]; rfl)) (fun w35 S16 => ?_)
       replace hb0 := S16.other hb0 n_b0_b2
       replace hb1 := S16.other hb1 n_b1_b2
       replace hb3 := S16.other hb3 n_b2_b3.symm
       replace hb4 := S16.other hb4 n_b2_b4.symm
       replace hb6 := S16.other hb6 n_b2_b6.symm
       replace hb8 := S16.other hb8 n_b2_b8.symm
       replace hb10 := S16.other hb10 n_b2_b10.symm
       replace hb12 := S16.other hb12 n_b2_b12.symm
       replace hb13 := S16.other hb13 n_b2_b13.symm
       replace hO_11 := hO_11.set S16 q_hO_11_b2
       replace hO_12 := hO_12.set S16 (hO_12.neT hb2 rfl)
       replace hX_11 := Xs.set hX_11 S16 (by simp)
       replace hX_12 := Xs.set hX_12 S16 (by simp)
       replace hb2 : w35.heap[b2]? = some (.cells #[.int .i64 12, .int .i64 ((nx en ts).a), zS, zS, zI, vg11, vg12, zI, zS, zI, zN, zN, zI, zN, zI, zI, zS, zI, zN, zN, zI] 35) := S16.new
       replace hR := hR.setF S16 (.inr gb2)
       replace hB := Fr.below hR hB0 hB0.size hSge
       refine .ops0 (.thenN (.retc ?_))
       refine At.doneDR en72 (fun u => expr1_any _ u _ hb0 hb1) (fun w9 hK => ?_)
       obtain ⟨hb0n, hF9⟩ := hK
       replace hb1 := Fr.oldB hF9 hb1 (n_b0_b1.symm)
       replace hb2 := Fr.oldB hF9 hb2 (n_b0_b2.symm)
       replace hb3 := Fr.oldB hF9 hb3 (n_b0_b3.symm)
       replace hb4 := Fr.oldB hF9 hb4 (n_b0_b4.symm)
       replace hb6 := Fr.oldB hF9 hb6 (n_b0_b6.symm)
       replace hb8 := Fr.oldB hF9 hb8 (n_b0_b8.symm)
       replace hb10 := Fr.oldB hF9 hb10 (n_b0_b10.symm)
       replace hb12 := Fr.oldB hF9 hb12 (n_b0_b12.symm)
       replace hb13 := Fr.oldB hF9 hb13 (n_b0_b13.symm)
       replace hO_11 := OwnR.frB hO_11 hF9 hb0 rfl
       replace hO_12 := OwnR.frB hO_12 hF9 hb0 rfl
       replace hX_11 := Xs.frS hX_11 hF9 (by rintro k rfl; simp)
       replace hX_12 := Xs.frS hX_12 hF9 (by rintro k rfl; simp)
       rw [wrap_sub (by omega)] at hb0n
       replace hb0 := hb0n
       replace hR := Fr.then hR hF9 (fun k hk => .inl hk)
       refine ⟨_, ResV.cell rfl (Ld.own (C := #[.int .i64 12, .int .i64 ((nx en ts).a), zS, zS, zI, vg11, vg12, zI, zS, zI, zN, zN, zI, zN, zI, zI, zS, zI, zN, zN, zI]) ag35 sz35 hb2) ResV.nil, ?_⟩
       exact RetP.ok (x := (ST.mk 12 ((nx en ts).a) (⟨#[]⟩ : ByteArray) (⟨#[]⟩ : ByteArray) 0 x11 x12)) (by simp only [exprS, exB, listOne_eq, wayOne_eq, SB, hc1, hc2, hc3, hc4, hc5, hc6, hq11, hq12] <;> rfl) hR hts12 hb0 ⟨(tmA 12 ((nx en ts).a) (⟨#[]⟩ : ByteArray) (⟨#[]⟩ : ByteArray) 0 vg11 es11 vg12 es12), rfl, (tmA_ok (OwnR.rows hO_11 (fun u hu => (((Xs.ok hX_11)) u hu).size)) (Xs.ok (Xs.weaken (M' := []) hX_11 SubM.nil)) (OwnR.rows hO_12 (fun u hu => (((Xs.ok hX_12)) u hu).size)) (Xs.ok (Xs.weaken (M' := []) hX_12 SubM.nil))), (MT.made (k := 12) (a := (nx en ts).a) (nm := (⟨#[]⟩ : ByteArray)) (pm := (⟨#[]⟩ : ByteArray)) (n := 0) (MTL.mono hT_11 hsz11) (MAL.mono hA_12 hsz12) (fun hn => OwnR.vbGe hO_11 gO_11 hn) (fun hn => OwnR.vbGe hO_12 gO_12 hn))⟩
      ·skip
       refine .seq (.region (.load rfl (Ld.ownCell ag77 hb1 rfl) rfl (.nilCheck rfl rfl (.fieldAddr rfl fo81_0 rfl ?_))))
       refine At.buildSlice (xs := [.const (.string (⟨#[104, 97, 110, 100, 108, 101]⟩ : ByteArray))]) rfl rfl el29 sz9 ze9 (by intro v hv; simp only [List.mem_cons, List.not_mem_nil, or_false] at hv; rcases hv with rfl <;> first | rfl | simp [Value.cells]) rfl (by decide) rfl (fun b14 w36 F14 => ?_)
       have n_b0_b14 : b0 ≠ b14 := Nat.ne_of_lt (F14.lt hb0)
       have n_b1_b14 : b1 ≠ b14 := Nat.ne_of_lt (F14.lt hb1)
       have n_b2_b14 : b2 ≠ b14 := Nat.ne_of_lt (F14.lt hb2)
       have n_b3_b14 : b3 ≠ b14 := Nat.ne_of_lt (F14.lt hb3)
       have n_b4_b14 : b4 ≠ b14 := Nat.ne_of_lt (F14.lt hb4)
       have n_b6_b14 : b6 ≠ b14 := Nat.ne_of_lt (F14.lt hb6)
       have n_b8_b14 : b8 ≠ b14 := Nat.ne_of_lt (F14.lt hb8)
       have n_b10_b14 : b10 ≠ b14 := Nat.ne_of_lt (F14.lt hb10)
       have n_b12_b14 : b12 ≠ b14 := Nat.ne_of_lt (F14.lt hb12)
       have gb14 := Nat.le_trans hR.size (Nat.le_of_eq F14.eq.symm)
       replace hb0 := F14.old hb0
       replace hb1 := F14.old hb1
       replace hb2 := F14.old hb2
       replace hb3 := F14.old hb3
       replace hb4 := F14.old hb4
       replace hb6 := F14.old hb6
       replace hb8 := F14.old hb8
       replace hb10 := F14.old hb10
       replace hb12 := F14.old hb12
       have hb14 : w36.heap[b14]? = some (.cells #[.string (⟨#[104, 97, 110, 100, 108, 101]⟩ : ByteArray)] 9) := F14.new
       replace hR := hR.freshF F14
       replace hB := Fr.below hR hB0 hB0.size hSge
       refine At.call en43 rfl rfl (is_any ts v (.slice (some ⟨b14, 0, none⟩) 1 1) ([(⟨#[104, 97, 110, 100, 108, 101]⟩ : ByteArray)]) _ ((hts).keep hB) hb0 ((StrsAt.own (ss := [(⟨#[104, 97, 110, 100, 108, 101]⟩ : ByteArray)]) hb14 rfl (by decide) : StrsAt _ (.slice (some ⟨b14, 0, none⟩) 1 1) [(⟨#[104, 97, 110, 100, 108, 101]⟩ : ByteArray)]))) (fun e w37 hR' => ?_)
       obtain ⟨rfl, hbl7⟩ := hR'
       refine ⟨_, rfl, ?_⟩
       replace hb0 := Below.old hbl7 hb0
       replace hb1 := Below.old hbl7 hb1
       replace hb2 := Below.old hbl7 hb2
       replace hb3 := Below.old hbl7 hb3
       replace hb4 := Below.old hbl7 hb4
       replace hb6 := Below.old hbl7 hb6
       replace hb8 := Below.old hbl7 hb8
       replace hb10 := Below.old hbl7 hb10
       replace hb12 := Below.old hbl7 hb12
       replace hb14 := Below.old hbl7 hb14
       replace hR := hR.callF hbl7
       replace hB := Fr.below hR hB0 hB0.size hSge
       refine .assign rfl rfl (.ops0 (.thenN ?_))
       refine At.cond (b := (isK en ts ([(⟨#[104, 97, 110, 100, 108, 101]⟩ : ByteArray)]))) rfl (fun hc7 => ?_) (fun hc7 => ?_)
       ·skip
        refine .seq (.region (.load rfl (Ld.ownCell ag77 hb1 rfl) rfl (.nilCheck rfl rfl (.fieldAddr rfl fo81_0 rfl ?_))))
        refine At.call en74 rfl rfl (ptake_any ts v _ hB hSge hts hb0 (is_len hc7)) (fun e wp13 hR' => ?_)
        obtain ⟨vr13, rfl, hts13, hbo13, hF13⟩ := hR'
        refine ⟨_, rfl, ?_⟩
        replace hb1 := Fr.oldB hF13 hb1 (n_b0_b1.symm)
        replace hb2 := Fr.oldB hF13 hb2 (n_b0_b2.symm)
        replace hb3 := Fr.oldB hF13 hb3 (n_b0_b3.symm)
        replace hb4 := Fr.oldB hF13 hb4 (n_b0_b4.symm)
        replace hb6 := Fr.oldB hF13 hb6 (n_b0_b6.symm)
        replace hb8 := Fr.oldB hF13 hb8 (n_b0_b8.symm)
        replace hb10 := Fr.oldB hF13 hb10 (n_b0_b10.symm)
        replace hb12 := Fr.oldB hF13 hb12 (n_b0_b12.symm)
        replace hb14 := Fr.oldB hF13 hb14 (n_b0_b14.symm)
        replace hb0 := hbo13
        replace hR := Fr.then hR hF13 (fun k hk => .inl hk)
        replace hB := Fr.below hR hB0 hB0.size hSge
        refine .ops0 (.thenN (.seq (.region (.load rfl (Ld.ownCell ag77 hb1 rfl) rfl ?_))))
        refine At.callP en66 rfl rfl (word_any ts.tail vr13 3 _ hB hSge hts13 hb0 (by decide)) (fun e wp14 hR' => ?_)
        rcases hR'.cases.symm with ⟨ba, bc, hq14, rfl, hF14, hbb⟩ | ⟨x14, us14, val14, vr14, hq14, rfl, hF14, hts14, hbo14, ho14⟩
        ·exact .inr ⟨_, rfl, (Exists.elim hbb fun vb h1 => Exists.elim h1 fun db hb9 => (Pk.then (Pk.block (Pk.then (Pk.bodyD1 (fun u => expr1_any _ u _ hb9 (hF14.old _ _ (by intro hk; first | exact n_b0_b1 hk.symm | (rcases hk with hk | hk; exact n_b0_b1 hk.symm; exact n_b1_b3 hk)) hb1)) (fun w9 hK => RetP.badThen (d := 0) (RetP.bad (by simp only [exprS, exB, listOne_eq, wayOne_eq, SB, hc1, hc2, hc3, hc4, hc5, hc6, hc7, hq14] <;> rfl) (Fr.then hR hF14 (fun k hk => .inl hk)) hbb) hK.2 (fun k hk => hk) ⟨_, _, hK.1⟩))))))⟩
        refine .inl ⟨_, rfl, ?_⟩
        replace hb1 := Fr.oldB hF14 hb1 (n_b0_b1.symm)
        replace hb2 := Fr.oldB hF14 hb2 (n_b0_b2.symm)
        replace hb3 := Fr.oldB hF14 hb3 (n_b0_b3.symm)
        replace hb4 := Fr.oldB hF14 hb4 (n_b0_b4.symm)
        replace hb6 := Fr.oldB hF14 hb6 (n_b0_b6.symm)
        replace hb8 := Fr.oldB hF14 hb8 (n_b0_b8.symm)
        replace hb10 := Fr.oldB hF14 hb10 (n_b0_b10.symm)
        replace hb12 := Fr.oldB hF14 hb12 (n_b0_b12.symm)
        replace hb14 := Fr.oldB hF14 hb14 (n_b0_b14.symm)
        replace hb0 := hbo14
        have hsz14 := hR.size
        replace hR := Fr.then hR hF14 (fun k hk => .inl hk)
        replace hB := Fr.below hR hB0 hB0.size hSge
        obtain rfl := ho14
        refine .fieldC rfl ft47_1 ag9 (((tk_ok x14)).c1) rfl (.fieldAddr rfl fo35_0 rfl ?_)
        refine At.store1 rfl rfl hb3 sz3 (by simp) rfl (fun w38 S17 => ?_)
        replace hb0 := S17.other hb0 n_b0_b3
        replace hb1 := S17.other hb1 n_b1_b3
        replace hb2 := S17.other hb2 n_b2_b3
        replace hb4 := S17.other hb4 n_b3_b4.symm
        replace hb6 := S17.other hb6 n_b3_b6.symm
        replace hb8 := S17.other hb8 n_b3_b8.symm
        replace hb10 := S17.other hb10 n_b3_b10.symm
        replace hb12 := S17.other hb12 n_b3_b12.symm
        replace hb14 := S17.other hb14 n_b3_b14.symm
        replace hb3 : w38.heap[b3]? = some (.cells #[.int .i64 14, .int .i64 ((nx en ts).a), zS, zS, zI, zN, zN, zI, zS, zI, zN, zN, zI, zN, zI, zI, zS, zI, zN, zN, zI] 35) := S17.new
        replace hR := hR.setF S17 (.inr gb3)
        replace hB := Fr.below hR hB0 hB0.size hSge
        refine .fieldAddr rfl fo35_2 rfl ?_
        refine At.store1 rfl rfl hb3 sz9 (by simp) rfl (fun w39 S18 => ?_)
        replace hb0 := S18.other hb0 n_b0_b3
        replace hb1 := S18.other hb1 n_b1_b3
        replace hb2 := S18.other hb2 n_b2_b3
        replace hb4 := S18.other hb4 n_b3_b4.symm
        replace hb6 := S18.other hb6 n_b3_b6.symm
        replace hb8 := S18.other hb8 n_b3_b8.symm
        replace hb10 := S18.other hb10 n_b3_b10.symm
        replace hb12 := S18.other hb12 n_b3_b12.symm
        replace hb14 := S18.other hb14 n_b3_b14.symm
        replace hb3 : w39.heap[b3]? = some (.cells #[.int .i64 14, .int .i64 ((nx en ts).a), .string (bs x14.t), zS, zI, zN, zN, zI, zS, zI, zN, zN, zI, zN, zI, zI, zS, zI, zN, zN, zI] 35) := S18.new
        replace hR := hR.setF S18 (.inr gb3)
        replace hB := Fr.below hR hB0 hB0.size hSge
        refine .ops0 (.thenN (.seq (.region (.load rfl (Ld.ownCell ag77 hb1 rfl) rfl ?_))))
        have hml15 : MLt w39.heap.size [some b0, some b1, some b2, some b3, some b4, some b6, some b8, some b10, some b12, some b14] := (MLt.blk hb0 (MLt.blk hb1 (MLt.blk hb2 (MLt.blk hb3 (MLt.blk hb4 (MLt.blk hb6 (MLt.blk hb8 (MLt.blk hb10 (MLt.blk hb12 (MLt.blk hb14 (MLt.nil _)))))))))))
        refine At.callP en46 rfl rfl (hex hdp wB b0 us14 vr14 _ hB hSge hts14 hb0 (by have hz := hbig; have := tail_len (is_len hc7); have := PR.Sh.of (word_sh en 3 (by decide) ts.tail) hq14; omega)) (fun e wp15 hR' => ?_)
        rcases hR'.cases.symm with ⟨ba, bc, hq15, rfl, hF15, hbb⟩ | ⟨x15, us15, val15, vr15, hq15, rfl, hF15, hts15, hbo15, ho15⟩
        ·exact .inr ⟨_, rfl, (Exists.elim hbb fun vb h1 => Exists.elim h1 fun db hb9 => (Pk.then (Pk.block (Pk.then (Pk.bodyD1 (fun u => expr1_any _ u _ hb9 (hF15.old _ _ (by intro hk; first | exact n_b0_b1 hk.symm | (rcases hk with hk | hk; exact n_b0_b1 hk.symm; exact n_b1_b3 hk)) hb1)) (fun w9 hK => RetP.badThen (d := 0) (RetP.bad (by simp only [exprS, exB, listOne_eq, wayOne_eq, SB, hc1, hc2, hc3, hc4, hc5, hc6, hc7, hq14, hq15] <;> rfl) (Fr.then hR hF15 (fun k hk => .inl hk)) hbb) hK.2 (fun k hk => hk) ⟨_, _, hK.1⟩))))))⟩
        refine .inl ⟨_, rfl, ?_⟩
        replace hb1 := Fr.oldB hF15 hb1 (n_b0_b1.symm)
        replace hb2 := Fr.oldB hF15 hb2 (n_b0_b2.symm)
        replace hb3 := Fr.oldB hF15 hb3 (n_b0_b3.symm)
        replace hb4 := Fr.oldB hF15 hb4 (n_b0_b4.symm)
        replace hb6 := Fr.oldB hF15 hb6 (n_b0_b6.symm)
        replace hb8 := Fr.oldB hF15 hb8 (n_b0_b8.symm)
        replace hb10 := Fr.oldB hF15 hb10 (n_b0_b10.symm)
        replace hb12 := Fr.oldB hF15 hb12 (n_b0_b12.symm)
        replace hb14 := Fr.oldB hF15 hb14 (n_b0_b14.symm)
        replace hb0 := hbo15
        have hsz15 := hR.size
        replace hR := Fr.then hR hF15 (fun k hk => .inl hk)
        replace hB := Fr.below hR hB0 hB0.size hSge
        obtain ⟨tm15, rfl, htm15, hmt15⟩ := ho15
        have hx15 := Xs.of_new (B := 0) (M := [some b0, some b1, some b2, some b3, some b4, some b6, some b8, some b10, some b12, some b14]) (K := kTm) htm15 (fun b hb => .inr (hmt15.blk b hb)) (fun _ _ => Nat.zero_le _) hml15
        replace hmt15 := hmt15.mono hsz15
        refine At.buildSlice (xs := [.tmp 133]) rfl rfl el26 sz35 ze35 (by intro v hv; simp only [List.mem_cons, List.not_mem_nil, or_false] at hv; rcases hv with rfl <;> first | rfl | simp [Value.cells, ((Xs.one hx15)).size]) rfl (by decide) rfl (fun b15 w40 F15 => ?_)
        have n_b0_b15 : b0 ≠ b15 := Nat.ne_of_lt (F15.lt hb0)
        have n_b1_b15 : b1 ≠ b15 := Nat.ne_of_lt (F15.lt hb1)
        have n_b2_b15 : b2 ≠ b15 := Nat.ne_of_lt (F15.lt hb2)
        have n_b3_b15 : b3 ≠ b15 := Nat.ne_of_lt (F15.lt hb3)
        have n_b4_b15 : b4 ≠ b15 := Nat.ne_of_lt (F15.lt hb4)
        have n_b6_b15 : b6 ≠ b15 := Nat.ne_of_lt (F15.lt hb6)
        have n_b8_b15 : b8 ≠ b15 := Nat.ne_of_lt (F15.lt hb8)
        have n_b10_b15 : b10 ≠ b15 := Nat.ne_of_lt (F15.lt hb10)
        have n_b12_b15 : b12 ≠ b15 := Nat.ne_of_lt (F15.lt hb12)
        have n_b14_b15 : b14 ≠ b15 := Nat.ne_of_lt (F15.lt hb14)
        have gb15 := Nat.le_trans hR.size (Nat.le_of_eq F15.eq.symm)
        replace hb0 := F15.old hb0
        replace hb1 := F15.old hb1
        replace hb2 := F15.old hb2
        replace hb3 := F15.old hb3
        replace hb4 := F15.old hb4
        replace hb6 := F15.old hb6
        replace hb8 := F15.old hb8
        replace hb10 := F15.old hb10
        replace hb12 := F15.old hb12
        replace hb14 := F15.old hb14
        replace hx15 := Xs.fresh hx15 F15
        have hb15 : w40.heap[b15]? = some (.cells (([tm15].map Tm.cs).flatMap (·.toList)).toArray 35) := F15.new
        replace hR := hR.freshF F15
        replace hB := Fr.below hR hB0 hB0.size hSge
        refine .fieldAddr rfl fo35_5 rfl ?_
        refine At.store1 rfl rfl hb3 sz26 (by simp) rfl (fun w41 S19 => ?_)
        replace hb0 := S19.other hb0 n_b0_b3
        replace hb1 := S19.other hb1 n_b1_b3
        replace hb2 := S19.other hb2 n_b2_b3
        replace hb4 := S19.other hb4 n_b3_b4.symm
        replace hb6 := S19.other hb6 n_b3_b6.symm
        replace hb8 := S19.other hb8 n_b3_b8.symm
        replace hb10 := S19.other hb10 n_b3_b10.symm
        replace hb12 := S19.other hb12 n_b3_b12.symm
        replace hb14 := S19.other hb14 n_b3_b14.symm
        replace hb15 := S19.other hb15 n_b3_b15.symm
        replace hx15 := Xs.set hx15 S19 (by simp)
        replace hb3 : w41.heap[b3]? = some (.cells #[.int .i64 14, .int .i64 ((nx en ts).a), .string (bs x14.t), zS, zI, (.slice (some ⟨b15, 0, none⟩) 1 1), zN, zI, zS, zI, zN, zN, zI, zN, zI, zI, zS, zI, zN, zN, zI] 35) := S19.new
        replace hR := hR.setF S19 (.inr gb3)
        replace hB := Fr.below hR hB0 hB0.size hSge
        refine .ops0 (.thenN (.seq (.region (.load rfl (Ld.ownCell ag77 hb1 rfl) rfl ?_))))
        refine At.buildSlice (xs := [.const (.string (⟨#[123]⟩ : ByteArray))]) rfl rfl el29 sz9 ze9 (by intro v hv; simp only [List.mem_cons, List.not_mem_nil, or_false] at hv; rcases hv with rfl <;> first | rfl | simp [Value.cells]) rfl (by decide) rfl (fun b16 w42 F16 => ?_)
        have n_b0_b16 : b0 ≠ b16 := Nat.ne_of_lt (F16.lt hb0)
        have n_b1_b16 : b1 ≠ b16 := Nat.ne_of_lt (F16.lt hb1)
        have n_b2_b16 : b2 ≠ b16 := Nat.ne_of_lt (F16.lt hb2)
        have n_b3_b16 : b3 ≠ b16 := Nat.ne_of_lt (F16.lt hb3)
        have n_b4_b16 : b4 ≠ b16 := Nat.ne_of_lt (F16.lt hb4)
        have n_b6_b16 : b6 ≠ b16 := Nat.ne_of_lt (F16.lt hb6)
        have n_b8_b16 : b8 ≠ b16 := Nat.ne_of_lt (F16.lt hb8)
        have n_b10_b16 : b10 ≠ b16 := Nat.ne_of_lt (F16.lt hb10)
        have n_b12_b16 : b12 ≠ b16 := Nat.ne_of_lt (F16.lt hb12)
        have n_b14_b16 : b14 ≠ b16 := Nat.ne_of_lt (F16.lt hb14)
        have n_b15_b16 : b15 ≠ b16 := Nat.ne_of_lt (F16.lt hb15)
        have gb16 := Nat.le_trans hR.size (Nat.le_of_eq F16.eq.symm)
        replace hb0 := F16.old hb0
        replace hb1 := F16.old hb1
        replace hb2 := F16.old hb2
        replace hb3 := F16.old hb3
        replace hb4 := F16.old hb4
        replace hb6 := F16.old hb6
        replace hb8 := F16.old hb8
        replace hb10 := F16.old hb10
        replace hb12 := F16.old hb12
        replace hb14 := F16.old hb14
        replace hb15 := F16.old hb15
        replace hx15 := Xs.fresh hx15 F16
        have hb16 : w42.heap[b16]? = some (.cells #[.string (⟨#[123]⟩ : ByteArray)] 9) := F16.new
        replace hR := hR.freshF F16
        replace hB := Fr.below hR hB0 hB0.size hSge
        refine At.callP en65 rfl rfl (ptext_any us15 vr15 (.slice (some ⟨b16, 0, none⟩) 1 1) ([(⟨#[123]⟩ : ByteArray)]) _ hB hSge hts15 hb0 ((StrsAt.own (ss := [(⟨#[123]⟩ : ByteArray)]) hb16 rfl (by decide) : StrsAt _ (.slice (some ⟨b16, 0, none⟩) 1 1) [(⟨#[123]⟩ : ByteArray)])) (fun _ => show b16 ≠ b0 from n_b0_b16.symm)) (fun e wp16 hR' => ?_)
        rcases hR'.cases.symm with ⟨ba, bc, hq16, rfl, hF16, hbb⟩ | ⟨x16, us16, val16, vr16, hq16, rfl, hF16, hts16, hbo16, ho16⟩
        ·exact .inr ⟨_, rfl, (Exists.elim hbb fun vb h1 => Exists.elim h1 fun db hb9 => (Pk.then (Pk.block (Pk.then (Pk.bodyD1 (fun u => expr1_any _ u _ hb9 (hF16.old _ _ (by intro hk; first | exact n_b0_b1 hk.symm | (rcases hk with hk | hk; exact n_b0_b1 hk.symm; exact n_b1_b3 hk)) hb1)) (fun w9 hK => RetP.badThen (d := 0) (RetP.bad (by simp only [exprS, exB, listOne_eq, wayOne_eq, SB, hc1, hc2, hc3, hc4, hc5, hc6, hc7, hq14, hq15, hq16] <;> rfl) (Fr.then hR hF16 (fun k hk => .inl hk)) hbb) hK.2 (fun k hk => hk) ⟨_, _, hK.1⟩))))))⟩
        refine .inl ⟨_, rfl, ?_⟩
        replace hb1 := Fr.oldB hF16 hb1 (n_b0_b1.symm)
        replace hb2 := Fr.oldB hF16 hb2 (n_b0_b2.symm)
        replace hb3 := Fr.oldB hF16 hb3 (n_b0_b3.symm)
        replace hb4 := Fr.oldB hF16 hb4 (n_b0_b4.symm)
        replace hb6 := Fr.oldB hF16 hb6 (n_b0_b6.symm)
        replace hb8 := Fr.oldB hF16 hb8 (n_b0_b8.symm)
        replace hb10 := Fr.oldB hF16 hb10 (n_b0_b10.symm)
        replace hb12 := Fr.oldB hF16 hb12 (n_b0_b12.symm)
        replace hb14 := Fr.oldB hF16 hb14 (n_b0_b14.symm)
        replace hb15 := Fr.oldB hF16 hb15 (n_b0_b15.symm)
        replace hb16 := Fr.oldB hF16 hb16 (n_b0_b16.symm)
        replace hx15 := Xs.frS hx15 hF16 (by rintro k rfl; simp)
        replace hb0 := hbo16
        have hsz16 := hR.size
        replace hR := Fr.then hR hF16 (fun k hk => .inl hk)
        replace hB := Fr.below hR hB0 hB0.size hSge
        obtain rfl := ho16
        refine .ops0 (.thenN (.seq (.region (.load rfl (Ld.ownCell ag77 hb1 rfl) rfl ?_))))
        have hml17 : MLt wp16.heap.size [some b0, some b1, some b2, some b3, some b4, some b6, some b8, some b10, some b12, some b14, some b15, some b16] := (MLt.blk hb0 (MLt.blk hb1 (MLt.blk hb2 (MLt.blk hb3 (MLt.blk hb4 (MLt.blk hb6 (MLt.blk hb8 (MLt.blk hb10 (MLt.blk hb12 (MLt.blk hb14 (MLt.blk hb15 (MLt.blk hb16 (MLt.nil _)))))))))))))
        refine At.callP en78 rfl rfl (clause_any us16 vr16 ex true _ hB hSge hts16 hb0 (by have hz := hbig; have := tail_len (is_len hc7); have := PR.Sh.of (word_sh en 3 (by decide) ts.tail) hq14; have := PR.Sh.of (hxs us14) hq15; have := PR.Le.of (text_le en ([(⟨#[123]⟩ : ByteArray)]) us15) hq16; omega) hxs (hex hdp)) (fun e wp17 hR' => ?_)
        rcases hR'.cases.symm with ⟨ba, bc, hq17, rfl, hF17, hbb⟩ | ⟨x17, us17, val17, vr17, hq17, rfl, hF17, hts17, hbo17, ho17⟩
        ·exact .inr ⟨_, rfl, (Exists.elim hbb fun vb h1 => Exists.elim h1 fun db hb9 => (Pk.then (Pk.block (Pk.then (Pk.bodyD1 (fun u => expr1_any _ u _ hb9 (hF17.old _ _ (by intro hk; first | exact n_b0_b1 hk.symm | (rcases hk with hk | hk; exact n_b0_b1 hk.symm; exact n_b1_b3 hk)) hb1)) (fun w9 hK => RetP.badThen (d := 0) (RetP.bad (by simp only [exprS, exB, listOne_eq, wayOne_eq, SB, hc1, hc2, hc3, hc4, hc5, hc6, hc7, hq14, hq15, hq16, hq17] <;> rfl) (Fr.then hR hF17 (fun k hk => .inl hk)) hbb) hK.2 (fun k hk => hk) ⟨_, _, hK.1⟩))))))⟩
        refine .inl ⟨_, rfl, ?_⟩
        replace hb1 := Fr.oldB hF17 hb1 (n_b0_b1.symm)
        replace hb2 := Fr.oldB hF17 hb2 (n_b0_b2.symm)
        replace hb3 := Fr.oldB hF17 hb3 (n_b0_b3.symm)
        replace hb4 := Fr.oldB hF17 hb4 (n_b0_b4.symm)
        replace hb6 := Fr.oldB hF17 hb6 (n_b0_b6.symm)
        replace hb8 := Fr.oldB hF17 hb8 (n_b0_b8.symm)
        replace hb10 := Fr.oldB hF17 hb10 (n_b0_b10.symm)
        replace hb12 := Fr.oldB hF17 hb12 (n_b0_b12.symm)
        replace hb14 := Fr.oldB hF17 hb14 (n_b0_b14.symm)
        replace hb15 := Fr.oldB hF17 hb15 (n_b0_b15.symm)
        replace hb16 := Fr.oldB hF17 hb16 (n_b0_b16.symm)
        replace hx15 := Xs.frS hx15 hF17 (by rintro k rfl; simp)
        replace hb0 := hbo17
        have hsz17 := hR.size
        replace hR := Fr.then hR hF17 (fun k hk => .inl hk)
        replace hB := Fr.below hR hB0 hB0.size hSge
        obtain ⟨tm17, rfl, htm17, hmt17⟩ := ho17
        have hx17 := Xs.of_new (B := 0) (M := [some b0, some b1, some b2, some b3, some b4, some b6, some b8, some b10, some b12, some b14, some b15, some b16]) (K := kAm) htm17 (fun b hb => .inr (hmt17.blk b hb)) (fun _ _ => Nat.zero_le _) hml17
        replace hmt17 := hmt17.mono hsz17
        refine At.buildSlice (xs := [.tmp 140]) rfl rfl el27 sz61 ze61 (by intro v hv; simp only [List.mem_cons, List.not_mem_nil, or_false] at hv; rcases hv with rfl <;> first | rfl | simp [Value.cells, ((Xs.one hx17)).size]) rfl (by decide) rfl (fun b17 w43 F17 => ?_)
        have n_b0_b17 : b0 ≠ b17 := Nat.ne_of_lt (F17.lt hb0)
        have n_b1_b17 : b1 ≠ b17 := Nat.ne_of_lt (F17.lt hb1)
        have n_b2_b17 : b2 ≠ b17 := Nat.ne_of_lt (F17.lt hb2)
        have n_b3_b17 : b3 ≠ b17 := Nat.ne_of_lt (F17.lt hb3)
        have n_b4_b17 : b4 ≠ b17 := Nat.ne_of_lt (F17.lt hb4)
        have n_b6_b17 : b6 ≠ b17 := Nat.ne_of_lt (F17.lt hb6)
        have n_b8_b17 : b8 ≠ b17 := Nat.ne_of_lt (F17.lt hb8)
        have n_b10_b17 : b10 ≠ b17 := Nat.ne_of_lt (F17.lt hb10)
        have n_b12_b17 : b12 ≠ b17 := Nat.ne_of_lt (F17.lt hb12)
        have n_b14_b17 : b14 ≠ b17 := Nat.ne_of_lt (F17.lt hb14)
        have n_b15_b17 : b15 ≠ b17 := Nat.ne_of_lt (F17.lt hb15)
        have n_b16_b17 : b16 ≠ b17 := Nat.ne_of_lt (F17.lt hb16)
        have gb17 := Nat.le_trans hR.size (Nat.le_of_eq F17.eq.symm)
        replace hb0 := F17.old hb0
        replace hb1 := F17.old hb1
        replace hb2 := F17.old hb2
        replace hb3 := F17.old hb3
        replace hb4 := F17.old hb4
        replace hb6 := F17.old hb6
        replace hb8 := F17.old hb8
        replace hb10 := F17.old hb10
        replace hb12 := F17.old hb12
        replace hb14 := F17.old hb14
        replace hb15 := F17.old hb15
        replace hb16 := F17.old hb16
        replace hx15 := Xs.fresh hx15 F17
        replace hx17 := Xs.fresh hx17 F17
        have hb17 : w43.heap[b17]? = some (.cells (([tm17].map Am.cs).flatMap (·.toList)).toArray 61) := F17.new
        replace hR := hR.freshF F17
        replace hB := Fr.below hR hB0 hB0.size hSge
        refine .fieldAddr rfl fo35_6 rfl ?_
        refine At.store1 rfl rfl hb3 sz27 (by simp) rfl (fun w44 S20 => ?_)
        replace hb0 := S20.other hb0 n_b0_b3
        replace hb1 := S20.other hb1 n_b1_b3
        replace hb2 := S20.other hb2 n_b2_b3
        replace hb4 := S20.other hb4 n_b3_b4.symm
        replace hb6 := S20.other hb6 n_b3_b6.symm
        replace hb8 := S20.other hb8 n_b3_b8.symm
        replace hb10 := S20.other hb10 n_b3_b10.symm
        replace hb12 := S20.other hb12 n_b3_b12.symm
        replace hb14 := S20.other hb14 n_b3_b14.symm
        replace hb15 := S20.other hb15 n_b3_b15.symm
        replace hb16 := S20.other hb16 n_b3_b16.symm
        replace hb17 := S20.other hb17 n_b3_b17.symm
        replace hx15 := Xs.set hx15 S20 (by simp)
        replace hx17 := Xs.set hx17 S20 (by simp)
        replace hb3 : w44.heap[b3]? = some (.cells #[.int .i64 14, .int .i64 ((nx en ts).a), .string (bs x14.t), zS, zI, (.slice (some ⟨b15, 0, none⟩) 1 1), (.slice (some ⟨b17, 0, none⟩) 1 1), zI, zS, zI, zN, zN, zI, zN, zI, zI, zS, zI, zN, zN, zI] 35) := S20.new
        replace hR := hR.setF S20 (.inr gb3)
        replace hB := Fr.below hR hB0 hB0.size hSge
        refine .ops0 (.thenN (.seq (.block ?_)))
        have hOa : OwnR 61 23 Am.cs w44 (.slice (some ⟨b17, 0, none⟩) 1 1) [tm17] := OwnR.of hb17 (mem1 (Q := fun u => (Am.cs u).size = 23) ((Xs.one hx17)).size) rfl (by decide)
        have gOa : ∀ g, Value.ownBlock (.slice (some ⟨b17, 0, none⟩) 1 1) = some g → w.heap.size ≤ g := fun g h => by cases h; exact gb17
        have qa_b0 : some b0 ≠ Value.ownBlock (.slice (some ⟨b17, 0, none⟩) 1 1) := fun e => n_b0_b17 (Option.some.inj e)
        have qa_b1 : some b1 ≠ Value.ownBlock (.slice (some ⟨b17, 0, none⟩) 1 1) := fun e => n_b1_b17 (Option.some.inj e)
        have qa_b2 : some b2 ≠ Value.ownBlock (.slice (some ⟨b17, 0, none⟩) 1 1) := fun e => n_b2_b17 (Option.some.inj e)
        have qa_b3 : some b3 ≠ Value.ownBlock (.slice (some ⟨b17, 0, none⟩) 1 1) := fun e => n_b3_b17 (Option.some.inj e)
        have qa_b4 : some b4 ≠ Value.ownBlock (.slice (some ⟨b17, 0, none⟩) 1 1) := fun e => n_b4_b17 (Option.some.inj e)
        have qa_b6 : some b6 ≠ Value.ownBlock (.slice (some ⟨b17, 0, none⟩) 1 1) := fun e => n_b6_b17 (Option.some.inj e)
        have qa_b8 : some b8 ≠ Value.ownBlock (.slice (some ⟨b17, 0, none⟩) 1 1) := fun e => n_b8_b17 (Option.some.inj e)
        have qa_b10 : some b10 ≠ Value.ownBlock (.slice (some ⟨b17, 0, none⟩) 1 1) := fun e => n_b10_b17 (Option.some.inj e)
        have qa_b12 : some b12 ≠ Value.ownBlock (.slice (some ⟨b17, 0, none⟩) 1 1) := fun e => n_b12_b17 (Option.some.inj e)
        have qa_b14 : some b14 ≠ Value.ownBlock (.slice (some ⟨b17, 0, none⟩) 1 1) := fun e => n_b14_b17 (Option.some.inj e)
        have qa_b15 : some b15 ≠ Value.ownBlock (.slice (some ⟨b17, 0, none⟩) 1 1) := fun e => n_b15_b17 (Option.some.inj e)
        have qa_b16 : some b16 ≠ Value.ownBlock (.slice (some ⟨b17, 0, none⟩) 1 1) := fun e => n_b16_b17 (Option.some.inj e)
        clear hb17
        refine At.loop (List Tk × Value × Nat × Value × List Am × List SA) (fun (us, vr, f, va, la, xa) => [(1, .pointer (some ⟨b1, 0, none⟩)), (2, .pointer (some ⟨b2, 0, none⟩)), (3, .pointer (some ⟨b3, 0, none⟩))]) (fun (us, vr, f, va, la, xa) w45 => Fr (fun k => k = b0) w w45 ∧ w45.heap[b0]? = some (.cells #[vr, .int .i64 en, .int .i64 (dp + 1)] 81) ∧ w45.heap[b1]? = some (.cells #[.pointer (some ⟨b0, 0, none⟩)] 77) ∧ w45.heap[b2]? = some (.cells #[zI, zI, zS, zS, zI, zN, zN, zI, zS, zI, zN, zN, zI, zN, zI, zI, zS, zI, zN, zN, zI] 35) ∧ w45.heap[b3]? = some (.cells #[.int .i64 14, .int .i64 ((nx en ts).a), .string (bs x14.t), zS, zI, (.slice (some ⟨b15, 0, none⟩) 1 1), va, zI, zS, zI, zN, zN, zI, zN, zI, zI, zS, zI, zN, zN, zI] 35) ∧ w45.heap[b15]? = some (.cells (([tm15].map Tm.cs).flatMap (·.toList)).toArray 35) ∧ OwnR 61 23 Am.cs w45 va la ∧ Xs kAm [Value.ownBlock va, some b0, some b1, some b2, some b3, some b15] w45 la ∧ Xs kTm [Value.ownBlock va, some b0, some b1, some b2, some b3, some b15] w45 [tm15] ∧ (RowsAt wB vr 4 (us.map Tk.cs)) ∧ (exB en ex ts = (clausesP en ex f xa us).bind fun zs us => (textP en [cB] us).bind fun _ us => .ok (.mk 14 (nx en ts).a (bs x14.t) E0B 0 [x15] zs) us) ∧ (us.length < f) ∧ (∀ g, Value.ownBlock va = some g → w.heap.size ≤ g) ∧ (MAL w xa la) ∧ (la.length + us.length ≤ ts.length + 1)) (fun (us, vr, f, va, la, xa) => f) (us17, vr17, (us17.length + 1), (.slice (some ⟨b17, 0, none⟩) 1 1), [tm17], [x17]) (Sub.cons rfl (Sub.cons rfl (Sub.cons rfl Sub.nil))) ⟨hR, hb0, hb1, hb2, hb3, hb15, hOa, (Xs.weaken (M' := [Value.ownBlock (.slice (some ⟨b17, 0, none⟩) 1 1), some b0, some b1, some b2, some b3, some b15]) hx17 (SubM.cons (.head _) (SubM.cons (.tail _ (.head _)) (SubM.cons (.tail _ (.tail _ (.head _))) (SubM.cons (.tail _ (.tail _ (.tail _ (.head _)))) (SubM.cons (.tail _ (.tail _ (.tail _ (.tail _ (.head _))))) (SubM.cons (.tail _ (.tail _ (.tail _ (.tail _ (.tail _ (.tail _ (.tail _ (.tail _ (.tail _ (.tail _ (.tail _ (.head _)))))))))))) SubM.nil))))))), (Xs.weaken (M' := [Value.ownBlock (.slice (some ⟨b17, 0, none⟩) 1 1), some b0, some b1, some b2, some b3, some b15]) hx15 (SubM.cons (.head _) (SubM.cons (.tail _ (.tail _ (.tail _ (.head _)))) (SubM.cons (.tail _ (.tail _ (.tail _ (.tail _ (.head _))))) (SubM.cons (.tail _ (.tail _ (.tail _ (.tail _ (.tail _ (.head _)))))) (SubM.cons (.tail _ (.tail _ (.tail _ (.tail _ (.tail _ (.tail _ (.head _))))))) (SubM.cons (.tail _ (.tail _ (.head _))) SubM.nil))))))), (hts17), (by simp only [exB, cond_true, cond_false, PR.bind_ok, hc1, hc2, hc3, hc4, hc5, hc6, hc7, hq14, hq15, hq16, hq17] <;> rfl), (Nat.lt_succ_self _), (gOa), (MAL.one hmt17), (by have := tail_len (is_len hc7); have := PR.Sh.of (word_sh en 3 (by decide) ts.tail) hq14; have := PR.Sh.of (hxs us14) hq15; have := PR.Le.of (text_le en ([(⟨#[123]⟩ : ByteArray)]) us15) hq16; have := PR.Sh.of (clause_sh hxs true us16) hq17; simp; omega)⟩ (fun gh w45 hI => ?_)
        obtain ⟨us, vr, f, va, la, xa⟩ := gh
        clear hR hB hb0 hb1 hb2 hb3 hb4 hb6 hb8 hb10 hb12 hb14 hb15 hb16 hOa hx15 hx17
        obtain ⟨hR, hb0, hb1, hb2, hb3, hb15, hOl, hXa, hXk, hus, hs, hfl, gOl, hTa, hln⟩ := hI
        have hB := Fr.below hR hB0 hB0.size hSge
        show At _ _ [(1, .pointer (some ⟨b1, 0, none⟩)), (2, .pointer (some ⟨b2, 0, none⟩)), (3, .pointer (some ⟨b3, 0, none⟩))] _ _
        refine .seq (.seq (.region (.load rfl (Ld.ownCell ag77 hb1 rfl) rfl (.nilCheck rfl rfl (.fieldAddr rfl fo81_0 rfl ?_)))))
        refine At.buildSlice (xs := [.const (.string (⟨#[59]⟩ : ByteArray))]) rfl rfl el29 sz9 ze9 (by intro v hv; simp only [List.mem_cons, List.not_mem_nil, or_false] at hv; rcases hv with rfl <;> first | rfl | simp [Value.cells]) rfl (by decide) rfl (fun b18 w46 F18 => ?_)
        have n_b0_b18 : b0 ≠ b18 := Nat.ne_of_lt (F18.lt hb0)
        have n_b1_b18 : b1 ≠ b18 := Nat.ne_of_lt (F18.lt hb1)
        have n_b2_b18 : b2 ≠ b18 := Nat.ne_of_lt (F18.lt hb2)
        have n_b3_b18 : b3 ≠ b18 := Nat.ne_of_lt (F18.lt hb3)
        have n_b15_b18 : b15 ≠ b18 := Nat.ne_of_lt (F18.lt hb15)
        have gb18 := Nat.le_trans hR.size (Nat.le_of_eq F18.eq.symm)
        replace hb0 := F18.old hb0
        replace hb1 := F18.old hb1
        replace hb2 := F18.old hb2
        replace hb3 := F18.old hb3
        replace hb15 := F18.old hb15
        replace hOl := hOl.fresh F18
        replace hXa := Xs.fresh hXa F18
        replace hXk := Xs.fresh hXk F18
        have hb18 : w46.heap[b18]? = some (.cells #[.string (⟨#[59]⟩ : ByteArray)] 9) := F18.new
        replace hR := hR.freshF F18
        replace hB := Fr.below hR hB0 hB0.size hSge
        refine At.call en43 rfl rfl (is_any us vr (.slice (some ⟨b18, 0, none⟩) 1 1) ([(⟨#[59]⟩ : ByteArray)]) _ ((hus).keep hB) hb0 ((StrsAt.own (ss := [(⟨#[59]⟩ : ByteArray)]) hb18 rfl (by decide) : StrsAt _ (.slice (some ⟨b18, 0, none⟩) 1 1) [(⟨#[59]⟩ : ByteArray)]))) (fun e w47 hR' => ?_)
        obtain ⟨rfl, hbl8⟩ := hR'
        refine ⟨_, rfl, ?_⟩
        replace hb0 := Below.old hbl8 hb0
        replace hb1 := Below.old hbl8 hb1
        replace hb2 := Below.old hbl8 hb2
        replace hb3 := Below.old hbl8 hb3
        replace hb15 := Below.old hbl8 hb15
        replace hb18 := Below.old hbl8 hb18
        replace hOl := hOl.below hbl8
        replace hXa := Xs.below hXa hbl8
        replace hXk := Xs.below hXk hbl8
        replace hR := hR.callF hbl8
        replace hB := Fr.below hR hB0 hB0.size hSge
        refine .ops0 (.thenN ?_)
        refine At.cond (b := (isK en us ([(⟨#[59]⟩ : ByteArray)]))) rfl (fun hc8 => ?_) (fun hc8 => ?_)
        ·skip
         refine .skip (.thenN (.block (.seq (.region (.load rfl (Ld.ownCell ag77 hb1 rfl) rfl (.nilCheck rfl rfl (.fieldAddr rfl fo81_0 rfl ?_)))))))
         refine At.call en74 rfl rfl (ptake_any us vr _ hB hSge hus hb0 (is_len hc8)) (fun e wp18 hR' => ?_)
         obtain ⟨vr18, rfl, hts18, hbo18, hF18⟩ := hR'
         refine ⟨_, rfl, ?_⟩
         replace hb1 := Fr.oldB hF18 hb1 (n_b0_b1.symm)
         replace hb2 := Fr.oldB hF18 hb2 (n_b0_b2.symm)
         replace hb3 := Fr.oldB hF18 hb3 (n_b0_b3.symm)
         replace hb15 := Fr.oldB hF18 hb15 (n_b0_b15.symm)
         replace hb18 := Fr.oldB hF18 hb18 (n_b0_b18.symm)
         replace hOl := OwnR.frB hOl hF18 hb0 rfl
         replace hXa := Xs.frS hXa hF18 (by rintro k rfl; simp)
         replace hXk := Xs.frS hXk hF18 (by rintro k rfl; simp)
         replace hb0 := hbo18
         replace hR := Fr.then hR hF18 (fun k hk => .inl hk)
         replace hB := Fr.below hR hB0 hB0.size hSge
         refine .ops0 (.thenN ?_)
         obtain ⟨u5, hu5⟩ := some_of_lt (l := (la ++ [zeroAm])) (i := la.length) (by first | omega | (simp; done) | (simp; omega))
         refine .drawG (n := 11) mixed (by kernel_rfl) rfl (PanicOk.block (PanicOk.then (PanicOk.block (PanicOk.then (PanicOk.block (PanicOk.then PanicOk.bodyD1)))))) ?_
         have hR := Fr.drewF hR
         have hB := Below.drewB hB
         have hb0 : _ := (show wp18.drew.heap[b0]? = _ from hb0)
         have hb1 : _ := (show wp18.drew.heap[b1]? = _ from hb1)
         have hb2 : _ := (show wp18.drew.heap[b2]? = _ from hb2)
         have hb3 : _ := (show wp18.drew.heap[b3]? = _ from hb3)
         have hb15 : _ := (show wp18.drew.heap[b15]? = _ from hb15)
         have hb18 : _ := (show wp18.drew.heap[b18]? = _ from hb18)
         have hOl := hOl.drew
         have hXa := Xs.drew hXa
         have hXk := Xs.drew hXk
         refine At.wpcS (i := 0) (d := 152) (.pointer (some ⟨b3, 0 + 6, none⟩)) (by kernel_rfl) rfl rfl rfl (fun Lx => ?_) ?_
         ·skip
          refine .fieldAddr rfl fo35_6 rfl (.ops0 ?_)
          exact fun a ha => ⟨ha, rfl⟩
         refine At.wpcS (i := 1) (d := 153) (va) (by kernel_rfl) rfl rfl rfl (fun Lx => ?_) ?_
         ·skip
          refine .load rfl (Ld.ownCell ag27 hb3 rfl) rfl (.ops0 ?_)
          exact fun a ha => ⟨ha, rfl⟩
         refine At.wpcS (i := 2) (d := 154) (.pointer (some ⟨b0, 0, none⟩)) (by kernel_rfl) rfl rfl rfl (fun Lx => ?_) ?_
         ·skip
          refine .load rfl (Ld.ownCell ag77 hb1 rfl) rfl (.ops0 ?_)
          exact fun a ha => ⟨ha, rfl⟩
         refine At.wpcS (i := 4) (d := 156) (.int .i64 (la.length : Int)) (by kernel_rfl) rfl rfl rfl (fun Lx => ?_) ?_
         ·skip
          refine .lenSl rfl (Own.slOk hOl) el27 rfl (.ops0 ?_)
          exact fun a ha => ⟨ha, rfl⟩
         refine At.wpcE [3, 5] (by kernel_rfl) (by kernel_rfl) (.cons [0, 1, 4] rfl (by kernel_rfl) ?_ (.cons [0, 1, 2, 4] rfl (by kernel_rfl) ?_ .nil))
         ·skip
          have hml19 : MLt wp18.drew.heap.size [some b0, some b1, some b2, some b3, some b15, some b18, Value.ownBlock va] := (MLt.blk hb0 (MLt.blk hb1 (MLt.blk hb2 (MLt.blk hb3 (MLt.blk hb15 (MLt.blk hb18 (MLt.own hOl (MLt.nil _))))))))
          refine At.callP en78 rfl rfl (clause_any us.tail vr18 ex false _ hB hSge hts18 hb0 (by have hz := hbig; have := hln; have := tail_len (is_len hc8); omega) hxs (hex hdp)) (fun e wp19 hR' => ?_)
          rcases hR'.cases.symm with ⟨ba, bc, hq19, rfl, hF19, hbb⟩ | ⟨x19, us19, val19, vr19, hq19, rfl, hF19, hts19, hbo19, ho19⟩
          ·exact .inr ⟨_, rfl, (Exists.elim hbb fun vb h1 => Exists.elim h1 fun db hb9 => (Pk.norm (Pk.block (Pk.then (Pk.block (Pk.then (Pk.block (Pk.then (Pk.bodyD1 (fun u => expr1_any _ u _ hb9 (hF19.old _ _ (by intro hk; first | exact n_b0_b1 hk.symm | (rcases hk with hk | hk; exact n_b0_b1 hk.symm; exact n_b1_b3 hk)) hb1)) (fun w9 hK => RetP.badThen (d := 0) (RetP.bad (by rw [exprS]; simp only [hc1, cond_false]; obtain ⟨q, rfl⟩ : ∃ q, f = q + 1 := ⟨f - 1, by omega⟩; rw [hs, clausesP]; simp only [exprS, exB, listOne_eq, wayOne_eq, SB, hc1, hc2, hc3, hc4, hc5, hc6, hc7, hc8, hq14, hq15, hq16, hq17, hq19] <;> rfl) (Fr.then hR hF19 (fun k hk => .inl hk)) hbb) hK.2 (fun k hk => hk) ⟨_, _, hK.1⟩))))))))))⟩
          refine .inl ⟨_, rfl, ?_⟩
          replace hb1 := Fr.oldB hF19 hb1 (n_b0_b1.symm)
          replace hb2 := Fr.oldB hF19 hb2 (n_b0_b2.symm)
          replace hb3 := Fr.oldB hF19 hb3 (n_b0_b3.symm)
          replace hb15 := Fr.oldB hF19 hb15 (n_b0_b15.symm)
          replace hb18 := Fr.oldB hF19 hb18 (n_b0_b18.symm)
          replace hOl := OwnR.frB hOl hF19 hb0 rfl
          replace hXa := Xs.frS hXa hF19 (by rintro k rfl; simp)
          replace hXk := Xs.frS hXk hF19 (by rintro k rfl; simp)
          replace hb0 := hbo19
          have hsz19 := hR.size
          replace hR := Fr.then hR hF19 (fun k hk => .inl hk)
          replace hB := Fr.below hR hB0 hB0.size hSge
          obtain ⟨tm19, rfl, htm19, hmt19⟩ := ho19
          have hx19 := Xs.of_new (B := 0) (M := [some b0, some b1, some b2, some b3, some b15, some b18, Value.ownBlock va]) (K := kAm) htm19 (fun b hb => .inr (hmt19.blk b hb)) (fun _ _ => Nat.zero_le _) hml19
          replace hmt19 := hmt19.mono hsz19
          refine .ops0 ?_
          refine At.wpcN (.cons rfl rfl rfl rfl (fun Lx => ?_) (.cons rfl rfl rfl rfl (fun Lx => ?_) (.cons rfl rfl rfl rfl (fun Lx => ?_) .nil))) ?_
          ·skip
           refine .fieldAddr rfl fo35_6 rfl (.ops0 ?_)
           exact fun a ha => ⟨ha, rfl⟩
          ·skip
           refine .load rfl (Ld.ownCell ag27 hb3 rfl) rfl (.ops0 ?_)
           exact fun a ha => ⟨ha, rfl⟩
          ·skip
           refine .lenSl rfl (Own.slOk hOl) el27 rfl (.ops0 ?_)
           exact fun a ha => ⟨ha, rfl⟩
          refine At.wpcE [5] (by kernel_rfl) (by kernel_rfl) (.cons [0, 1, 4] rfl (by kernel_rfl) ?_ .nil)
          refine At.buildSlice (xs := [.const (.agg #[zS, zN, zI, zI, zS, zS, zI, zN, zN, zI, zS, zI, zN, zN, zI, zN, zI, zI, zS, zI, zN, zN, zI])]) rfl rfl el27 sz61 ze61 (by intro v hv; simp only [List.mem_cons, List.not_mem_nil, or_false] at hv; rcases hv with rfl <;> first | rfl | simp [Value.cells, ((zeroAm_ok _)).size]) rfl (by decide) rfl (fun b19 w48 F19 => ?_)
          have q_hOl_b19 : some b19 ≠ Value.ownBlock va := Own.neFresh hOl F19
          have n_b0_b19 : b0 ≠ b19 := Nat.ne_of_lt (F19.lt hb0)
          have n_b1_b19 : b1 ≠ b19 := Nat.ne_of_lt (F19.lt hb1)
          have n_b2_b19 : b2 ≠ b19 := Nat.ne_of_lt (F19.lt hb2)
          have n_b3_b19 : b3 ≠ b19 := Nat.ne_of_lt (F19.lt hb3)
          have n_b15_b19 : b15 ≠ b19 := Nat.ne_of_lt (F19.lt hb15)
          have n_b18_b19 : b18 ≠ b19 := Nat.ne_of_lt (F19.lt hb18)
          have gb19 := Nat.le_trans hR.size (Nat.le_of_eq F19.eq.symm)
          replace hb0 := F19.old hb0
          replace hb1 := F19.old hb1
          replace hb2 := F19.old hb2
          replace hb3 := F19.old hb3
          replace hb15 := F19.old hb15
          replace hb18 := F19.old hb18
          replace hOl := hOl.fresh F19
          replace hXa := Xs.fresh hXa F19
          replace hXk := Xs.fresh hXk F19
          replace hx19 := Xs.fresh hx19 F19
          have hb19 : w48.heap[b19]? = some (.cells (([zeroAm].map Am.cs).flatMap (·.toList)).toArray 61) := F19.new
          replace hR := hR.freshF F19
          replace hB := Fr.below hR hB0 hB0.size hSge
          refine .ops0 ?_
          refine At.wpcN (.cons rfl rfl rfl rfl (fun Lx => ?_) (.cons rfl rfl rfl rfl (fun Lx => ?_) (.cons rfl rfl rfl rfl (fun Lx => ?_) .nil))) ?_
          ·skip
           refine .fieldAddr rfl fo35_6 rfl (.ops0 ?_)
           exact fun a ha => ⟨ha, rfl⟩
          ·skip
           refine .load rfl (Ld.ownCell ag27 hb3 rfl) rfl (.ops0 ?_)
           exact fun a ha => ⟨ha, rfl⟩
          ·skip
           refine .lenSl rfl (Own.slOk hOl) el27 rfl (.ops0 ?_)
           exact fun a ha => ⟨ha, rfl⟩
          refine At.wpcE [6] (by kernel_rfl) (by kernel_rfl) (.cons [] rfl (by kernel_rfl) ?_ .nil)
          refine At.appendR (f := Am.cs) rfl rfl el27 el27 sz61 by61 ze61 rfl hOl (rows_own (f := Am.cs) (m := 1) hb19 (fun u hu => ((mem1 (Q := fun u => AmOk w48 u) (((zeroAm_ok _)).keep (Below.refl _ _))) u hu).size) rfl (by decide)) (by decide) (fun u hu => (((mem1 (Q := fun u => AmOk w48 u) (((zeroAm_ok _)).keep (Below.refl _ _)))) u hu).one) (by first | omega | (simp; omega)) (by first | omega | (simp; omega)) rfl (fun va1 w49 hO1 hA1 => ?_)
          replace hO1 : OwnR 61 23 Am.cs w49 va1 (la ++ [zeroAm]) := hO1
          replace hb0 := hA1.old hb0 (hOl.neT hb0 rfl)
          replace hb1 := hA1.old hb1 (hOl.neT hb1 rfl)
          replace hb2 := hA1.old hb2 (hOl.neT hb2 rfl)
          replace hb3 := hA1.old hb3 (hOl.neT hb3 rfl)
          replace hb15 := hA1.old hb15 (hOl.neT hb15 rfl)
          replace hb18 := hA1.old hb18 (hOl.neT hb18 rfl)
          clear hb19
          replace hXa := Xs.app hXa hA1 (.inr (by simp))
          replace hXk := Xs.app hXk hA1 (.inr (by simp))
          replace hx19 := Xs.app hx19 hA1 (.inr (by simp))
          have ghO1 := hA1.ge hR.size gOl
          replace hR := hR.appF hA1 (fun g hg => .inr (gOl g hg))
          replace hB := Fr.below hR hB0 hB0.size hSge
          refine .ops0 (.wpcN .nil ?_)
          refine At.wpcS (i := 7) (d := 159) (.pointer (some ⟨vBlock va1, vOff va1 + la.length * 23, none⟩)) (by kernel_rfl) rfl rfl rfl (fun Lx => ?_) ?_
          ·skip
           refine .indexAddr (i := la.length) rfl rfl (Own.slOk hO1) (lt_of_some hu5) el27 sz61 rfl (.ops0 ?_)
           exact fun a ha => ⟨ha, rfl⟩
          refine At.wpcS (i := 9) (d := 160) (.pointer (some ⟨b3, 0 + 6, none⟩)) (by kernel_rfl) rfl rfl rfl (fun Lx => ?_) ?_
          ·skip
           refine .fieldAddr rfl fo35_6 rfl (.ops0 ?_)
           exact fun a ha => ⟨ha, rfl⟩
          refine At.wpcE [8, 10] (by kernel_rfl) (by kernel_rfl) (.cons [9] rfl (by kernel_rfl) ?_ (.cons [7] rfl (by kernel_rfl) ?_ .nil))
          ·skip
           refine At.storeRow (f := Am.cs) (i := la.length) (off := 0) tm19 rfl rfl hO1 hu5 (fun u hu => (((all_app (Q := fun u => AmOk w49 u) (Xs.ok hXa) (mem1 (Q := fun u => AmOk w49 u) (((zeroAm_ok _)).keep (Below.refl _ _))))) u hu).size) (by omega) (sz61.trans (congrArg some ((Xs.one hx19)).size.symm)) (splice_all (((((all_app (Q := fun u => AmOk w49 u) (Xs.ok hXa) (mem1 (Q := fun u => AmOk w49 u) (((zeroAm_ok _)).keep (Below.refl _ _))))) u5 (List.mem_of_getElem? hu5))).size.trans ((Xs.one hx19)).size.symm)).symm (by show 0 + tm19.cs.size ≤ 23; rw [((Xs.one hx19)).size]; decide) ((Xs.one hx19)).one (fun w50 hO2 hA2 => ?_)
           replace hb0 := hA2.old hb0 (hO1.neT hb0 rfl)
           replace hb1 := hA2.old hb1 (hO1.neT hb1 rfl)
           replace hb2 := hA2.old hb2 (hO1.neT hb2 rfl)
           replace hb3 := hA2.old hb3 (hO1.neT hb3 rfl)
           replace hb15 := hA2.old hb15 (hO1.neT hb15 rfl)
           replace hb18 := hA2.old hb18 (hO1.neT hb18 rfl)
           replace hXa := Xs.app hXa hA2 (.inr (by simp))
           replace hXk := Xs.app hXk hA2 (.inr (by simp))
           replace hx19 := Xs.app hx19 hA2 (.inr (by simp))
           replace hR := hR.appF hA2 (fun g hg => .inr (ghO1 g hg))
           replace hB := Fr.below hR hB0 hB0.size hSge
           refine .ops0 ?_
           refine At.wpcN (.cons rfl rfl rfl rfl (fun Lx => ?_) .nil) ?_
           ·skip
            refine .fieldAddr rfl fo35_6 rfl (.ops0 ?_)
            exact fun a ha => ⟨ha, rfl⟩
           refine At.wpcE [10] (by kernel_rfl) (by kernel_rfl) (.cons [] rfl (by kernel_rfl) ?_ .nil)
           refine At.store1 rfl rfl hb3 sz27 (by simp) (hO2).one (fun w51 S21 => ?_)
           replace hb0 := S21.other hb0 n_b0_b3
           replace hb1 := S21.other hb1 n_b1_b3
           replace hb2 := S21.other hb2 n_b2_b3
           replace hb15 := S21.other hb15 n_b3_b15.symm
           replace hb18 := S21.other hb18 n_b3_b18.symm
           replace hO2 := hO2.set S21 (hO2.neT hb3 rfl)
           replace hXa := Xs.set hXa S21 (by simp)
           replace hXk := Xs.set hXk S21 (by simp)
           replace hx19 := Xs.set hx19 S21 (by simp)
           replace hb3 : w51.heap[b3]? = some (.cells #[.int .i64 14, .int .i64 ((nx en ts).a), .string (bs x14.t), zS, zI, (.slice (some ⟨b15, 0, none⟩) 1 1), va1, zI, zS, zI, zN, zN, zI, zN, zI, zI, zS, zI, zN, zN, zI] 35) := S21.new
           replace hR := hR.setF S21 (.inr gb3)
           replace hB := Fr.below hR hB0 hB0.size hSge
           refine .ops0 (.wpcN .nil (.wpcZ (.inN (.thenN ?_))))
           exact fun act_ hact_ => ⟨(us19, vr19, (f - 1), va1, (la ++ [tm19]), (xa ++ [x19])), hact_.sub (Sub.cons rfl (Sub.cons rfl (Sub.cons rfl Sub.nil))), ⟨hR, hb0, hb1, hb2, hb3, hb15, (by have q := hO2; rw [set_snoc] at q; exact q), (Xs.append (Xs.weaken (M' := [Value.ownBlock va1, some b0, some b1, some b2, some b3, some b15]) hXa (SubM.cons (.head _) (SubM.cons (.tail _ (.tail _ (.tail _ (.tail _ (.tail _ (.head _)))))) (SubM.cons (.tail _ (.tail _ (.tail _ (.tail _ (.tail _ (.tail _ (.head _))))))) (SubM.cons (.tail _ (.tail _ (.tail _ (.tail _ (.tail _ (.tail _ (.tail _ (.head _)))))))) (SubM.cons (.tail _ (.tail _ (.tail _ (.tail _ (.tail _ (.tail _ (.tail _ (.tail _ (.head _))))))))) (SubM.cons (.tail _ (.tail _ (.tail _ (.tail _ (.tail _ (.tail _ (.tail _ (.tail _ (.tail _ (.head _)))))))))) SubM.nil))))))) (Xs.weaken (M' := [Value.ownBlock va1, some b0, some b1, some b2, some b3, some b15]) hx19 (SubM.cons (.head _) (SubM.cons (.tail _ (.tail _ (.tail _ (.head _)))) (SubM.cons (.tail _ (.tail _ (.tail _ (.tail _ (.head _))))) (SubM.cons (.tail _ (.tail _ (.tail _ (.tail _ (.tail _ (.head _)))))) (SubM.cons (.tail _ (.tail _ (.tail _ (.tail _ (.tail _ (.tail _ (.head _))))))) (SubM.cons (.tail _ (.tail _ (.tail _ (.tail _ (.tail _ (.tail _ (.tail _ (.head _)))))))) SubM.nil)))))))), (Xs.weaken (M' := [Value.ownBlock va1, some b0, some b1, some b2, some b3, some b15]) hXk (SubM.cons (.head _) (SubM.cons (.tail _ (.tail _ (.tail _ (.tail _ (.tail _ (.head _)))))) (SubM.cons (.tail _ (.tail _ (.tail _ (.tail _ (.tail _ (.tail _ (.head _))))))) (SubM.cons (.tail _ (.tail _ (.tail _ (.tail _ (.tail _ (.tail _ (.tail _ (.head _)))))))) (SubM.cons (.tail _ (.tail _ (.tail _ (.tail _ (.tail _ (.tail _ (.tail _ (.tail _ (.head _))))))))) (SubM.cons (.tail _ (.tail _ (.tail _ (.tail _ (.tail _ (.tail _ (.tail _ (.tail _ (.tail _ (.head _)))))))))) SubM.nil))))))), (hts19), (by obtain ⟨q, rfl⟩ : ∃ q, f = q + 1 := ⟨f - 1, by omega⟩; rw [hs, clausesP]; simp only [smB, hc1, hc2, hc3, hc4, hc5, hc6, hc7, hc8, hq14, hq15, hq16, hq17, hq19, cond_true, PR.bind_ok]; rfl), (by have := hln; have := tail_len (is_len hc8); have := PR.Sh.of (clause_sh hxs false us.tail) hq19; omega), (ghO1), (MAL.snoc hTa hmt19), (by have := hln; have := tail_len (is_len hc8); have := PR.Sh.of (clause_sh hxs false us.tail) hq19; simp; omega)⟩, by first | omega | (dsimp only; omega)⟩
          ·skip
           refine At.store1 rfl rfl hb3 sz27 (by simp) (hO1).one (fun w52 S22 => ?_)
           replace hb0 := S22.other hb0 n_b0_b3
           replace hb1 := S22.other hb1 n_b1_b3
           replace hb2 := S22.other hb2 n_b2_b3
           replace hb15 := S22.other hb15 n_b3_b15.symm
           replace hb18 := S22.other hb18 n_b3_b18.symm
           replace hO1 := hO1.set S22 (hO1.neT hb3 rfl)
           replace hXa := Xs.set hXa S22 (by simp)
           replace hXk := Xs.set hXk S22 (by simp)
           replace hx19 := Xs.set hx19 S22 (by simp)
           replace hb3 : w52.heap[b3]? = some (.cells #[.int .i64 14, .int .i64 ((nx en ts).a), .string (bs x14.t), zS, zI, (.slice (some ⟨b15, 0, none⟩) 1 1), va1, zI, zS, zI, zN, zN, zI, zN, zI, zI, zS, zI, zN, zN, zI] 35) := S22.new
           replace hR := hR.setF S22 (.inr gb3)
           replace hB := Fr.below hR hB0 hB0.size hSge
           refine .ops0 ?_
           refine At.wpcN (.cons rfl rfl rfl rfl (fun Lx => ?_) .nil) ?_
           ·skip
            refine .indexAddr (i := la.length) rfl rfl (Own.slOk hO1) (lt_of_some hu5) el27 sz61 rfl (.ops0 ?_)
            exact fun a ha => ⟨ha, rfl⟩
           refine At.wpcE [8] (by kernel_rfl) (by kernel_rfl) (.cons [] rfl (by kernel_rfl) ?_ .nil)
           refine At.storeRow (f := Am.cs) (i := la.length) (off := 0) tm19 rfl rfl hO1 hu5 (fun u hu => (((all_app (Q := fun u => AmOk w52 u) (Xs.ok hXa) (mem1 (Q := fun u => AmOk w52 u) (((zeroAm_ok _)).keep (Below.refl _ _))))) u hu).size) (by omega) (sz61.trans (congrArg some ((Xs.one hx19)).size.symm)) (splice_all (((((all_app (Q := fun u => AmOk w52 u) (Xs.ok hXa) (mem1 (Q := fun u => AmOk w52 u) (((zeroAm_ok _)).keep (Below.refl _ _))))) u5 (List.mem_of_getElem? hu5))).size.trans ((Xs.one hx19)).size.symm)).symm (by show 0 + tm19.cs.size ≤ 23; rw [((Xs.one hx19)).size]; decide) ((Xs.one hx19)).one (fun w53 hO3 hA3 => ?_)
           replace hb0 := hA3.old hb0 (hO1.neT hb0 rfl)
           replace hb1 := hA3.old hb1 (hO1.neT hb1 rfl)
           replace hb2 := hA3.old hb2 (hO1.neT hb2 rfl)
           replace hb3 := hA3.old hb3 (hO1.neT hb3 rfl)
           replace hb15 := hA3.old hb15 (hO1.neT hb15 rfl)
           replace hb18 := hA3.old hb18 (hO1.neT hb18 rfl)
           replace hXa := Xs.app hXa hA3 (.inr (by simp))
           replace hXk := Xs.app hXk hA3 (.inr (by simp))
           replace hx19 := Xs.app hx19 hA3 (.inr (by simp))
           replace hR := hR.appF hA3 (fun g hg => .inr (ghO1 g hg))
           replace hB := Fr.below hR hB0 hB0.size hSge
           refine .ops0 (.wpcN .nil (.wpcZ (.inN (.thenN ?_))))
           exact fun act_ hact_ => ⟨(us19, vr19, (f - 1), va1, (la ++ [tm19]), (xa ++ [x19])), hact_.sub (Sub.cons rfl (Sub.cons rfl (Sub.cons rfl Sub.nil))), ⟨hR, hb0, hb1, hb2, hb3, hb15, (by have q := hO3; rw [set_snoc] at q; exact q), (Xs.append (Xs.weaken (M' := [Value.ownBlock va1, some b0, some b1, some b2, some b3, some b15]) hXa (SubM.cons (.head _) (SubM.cons (.tail _ (.tail _ (.tail _ (.tail _ (.tail _ (.head _)))))) (SubM.cons (.tail _ (.tail _ (.tail _ (.tail _ (.tail _ (.tail _ (.head _))))))) (SubM.cons (.tail _ (.tail _ (.tail _ (.tail _ (.tail _ (.tail _ (.tail _ (.head _)))))))) (SubM.cons (.tail _ (.tail _ (.tail _ (.tail _ (.tail _ (.tail _ (.tail _ (.tail _ (.head _))))))))) (SubM.cons (.tail _ (.tail _ (.tail _ (.tail _ (.tail _ (.tail _ (.tail _ (.tail _ (.tail _ (.head _)))))))))) SubM.nil))))))) (Xs.weaken (M' := [Value.ownBlock va1, some b0, some b1, some b2, some b3, some b15]) hx19 (SubM.cons (.head _) (SubM.cons (.tail _ (.tail _ (.tail _ (.head _)))) (SubM.cons (.tail _ (.tail _ (.tail _ (.tail _ (.head _))))) (SubM.cons (.tail _ (.tail _ (.tail _ (.tail _ (.tail _ (.head _)))))) (SubM.cons (.tail _ (.tail _ (.tail _ (.tail _ (.tail _ (.tail _ (.head _))))))) (SubM.cons (.tail _ (.tail _ (.tail _ (.tail _ (.tail _ (.tail _ (.tail _ (.head _)))))))) SubM.nil)))))))), (Xs.weaken (M' := [Value.ownBlock va1, some b0, some b1, some b2, some b3, some b15]) hXk (SubM.cons (.head _) (SubM.cons (.tail _ (.tail _ (.tail _ (.tail _ (.tail _ (.head _)))))) (SubM.cons (.tail _ (.tail _ (.tail _ (.tail _ (.tail _ (.tail _ (.head _))))))) (SubM.cons (.tail _ (.tail _ (.tail _ (.tail _ (.tail _ (.tail _ (.tail _ (.head _)))))))) (SubM.cons (.tail _ (.tail _ (.tail _ (.tail _ (.tail _ (.tail _ (.tail _ (.tail _ (.head _))))))))) (SubM.cons (.tail _ (.tail _ (.tail _ (.tail _ (.tail _ (.tail _ (.tail _ (.tail _ (.tail _ (.head _)))))))))) SubM.nil))))))), (hts19), (by obtain ⟨q, rfl⟩ : ∃ q, f = q + 1 := ⟨f - 1, by omega⟩; rw [hs, clausesP]; simp only [smB, hc1, hc2, hc3, hc4, hc5, hc6, hc7, hc8, hq14, hq15, hq16, hq17, hq19, cond_true, PR.bind_ok]; rfl), (by have := hln; have := tail_len (is_len hc8); have := PR.Sh.of (clause_sh hxs false us.tail) hq19; omega), (ghO1), (MAL.snoc hTa hmt19), (by have := hln; have := tail_len (is_len hc8); have := PR.Sh.of (clause_sh hxs false us.tail) hq19; simp; omega)⟩, by first | omega | (dsimp only; omega)⟩
         ·skip
          refine At.buildSlice (xs := [.const (.agg #[zS, zN, zI, zI, zS, zS, zI, zN, zN, zI, zS, zI, zN, zN, zI, zN, zI, zI, zS, zI, zN, zN, zI])]) rfl rfl el27 sz61 ze61 (by intro v hv; simp only [List.mem_cons, List.not_mem_nil, or_false] at hv; rcases hv with rfl <;> first | rfl | simp [Value.cells, ((zeroAm_ok _)).size]) rfl (by decide) rfl (fun b20 w54 F20 => ?_)
          have q_hOl_b20 : some b20 ≠ Value.ownBlock va := Own.neFresh hOl F20
          have n_b0_b20 : b0 ≠ b20 := Nat.ne_of_lt (F20.lt hb0)
          have n_b1_b20 : b1 ≠ b20 := Nat.ne_of_lt (F20.lt hb1)
          have n_b2_b20 : b2 ≠ b20 := Nat.ne_of_lt (F20.lt hb2)
          have n_b3_b20 : b3 ≠ b20 := Nat.ne_of_lt (F20.lt hb3)
          have n_b15_b20 : b15 ≠ b20 := Nat.ne_of_lt (F20.lt hb15)
          have n_b18_b20 : b18 ≠ b20 := Nat.ne_of_lt (F20.lt hb18)
          have gb20 := Nat.le_trans hR.size (Nat.le_of_eq F20.eq.symm)
          replace hb0 := F20.old hb0
          replace hb1 := F20.old hb1
          replace hb2 := F20.old hb2
          replace hb3 := F20.old hb3
          replace hb15 := F20.old hb15
          replace hb18 := F20.old hb18
          replace hOl := hOl.fresh F20
          replace hXa := Xs.fresh hXa F20
          replace hXk := Xs.fresh hXk F20
          have hb20 : w54.heap[b20]? = some (.cells (([zeroAm].map Am.cs).flatMap (·.toList)).toArray 61) := F20.new
          replace hR := hR.freshF F20
          replace hB := Fr.below hR hB0 hB0.size hSge
          refine .ops0 ?_
          refine At.wpcN (.cons rfl rfl rfl rfl (fun Lx => ?_) (.cons rfl rfl rfl rfl (fun Lx => ?_) (.cons rfl rfl rfl rfl (fun Lx => ?_) (.cons rfl rfl rfl rfl (fun Lx => ?_) .nil)))) ?_
          ·skip
           refine .fieldAddr rfl fo35_6 rfl (.ops0 ?_)
           exact fun a ha => ⟨ha, rfl⟩
          ·skip
           refine .load rfl (Ld.ownCell ag27 hb3 rfl) rfl (.ops0 ?_)
           exact fun a ha => ⟨ha, rfl⟩
          ·skip
           refine .load rfl (Ld.ownCell ag77 hb1 rfl) rfl (.ops0 ?_)
           exact fun a ha => ⟨ha, rfl⟩
          ·skip
           refine .lenSl rfl (Own.slOk hOl) el27 rfl (.ops0 ?_)
           exact fun a ha => ⟨ha, rfl⟩
          refine At.wpcE [3] (by kernel_rfl) (by kernel_rfl) (.cons [0, 1, 4] rfl (by kernel_rfl) ?_ .nil)
          have hml20 : MLt w54.heap.size [some b0, some b1, some b2, some b3, some b15, some b18, some b20, Value.ownBlock va] := (MLt.blk hb0 (MLt.blk hb1 (MLt.blk hb2 (MLt.blk hb3 (MLt.blk hb15 (MLt.blk hb18 (MLt.blk hb20 (MLt.own hOl (MLt.nil _)))))))))
          refine At.callP en78 rfl rfl (clause_any us.tail vr18 ex false _ hB hSge hts18 hb0 (by have hz := hbig; have := hln; have := tail_len (is_len hc8); omega) hxs (hex hdp)) (fun e wp20 hR' => ?_)
          rcases hR'.cases.symm with ⟨ba, bc, hq20, rfl, hF20, hbb⟩ | ⟨x20, us20, val20, vr20, hq20, rfl, hF20, hts20, hbo20, ho20⟩
          ·exact .inr ⟨_, rfl, (Exists.elim hbb fun vb h1 => Exists.elim h1 fun db hb9 => (Pk.norm (Pk.block (Pk.then (Pk.block (Pk.then (Pk.block (Pk.then (Pk.bodyD1 (fun u => expr1_any _ u _ hb9 (hF20.old _ _ (by intro hk; first | exact n_b0_b1 hk.symm | (rcases hk with hk | hk; exact n_b0_b1 hk.symm; exact n_b1_b3 hk)) hb1)) (fun w9 hK => RetP.badThen (d := 0) (RetP.bad (by rw [exprS]; simp only [hc1, cond_false]; obtain ⟨q, rfl⟩ : ∃ q, f = q + 1 := ⟨f - 1, by omega⟩; rw [hs, clausesP]; simp only [exprS, exB, listOne_eq, wayOne_eq, SB, hc1, hc2, hc3, hc4, hc5, hc6, hc7, hc8, hq14, hq15, hq16, hq17, hq20] <;> rfl) (Fr.then hR hF20 (fun k hk => .inl hk)) hbb) hK.2 (fun k hk => hk) ⟨_, _, hK.1⟩))))))))))⟩
          refine .inl ⟨_, rfl, ?_⟩
          replace hb1 := Fr.oldB hF20 hb1 (n_b0_b1.symm)
          replace hb2 := Fr.oldB hF20 hb2 (n_b0_b2.symm)
          replace hb3 := Fr.oldB hF20 hb3 (n_b0_b3.symm)
          replace hb15 := Fr.oldB hF20 hb15 (n_b0_b15.symm)
          replace hb18 := Fr.oldB hF20 hb18 (n_b0_b18.symm)
          replace hb20 := Fr.oldB hF20 hb20 (n_b0_b20.symm)
          replace hOl := OwnR.frB hOl hF20 hb0 rfl
          replace hXa := Xs.frS hXa hF20 (by rintro k rfl; simp)
          replace hXk := Xs.frS hXk hF20 (by rintro k rfl; simp)
          replace hb0 := hbo20
          have hsz20 := hR.size
          replace hR := Fr.then hR hF20 (fun k hk => .inl hk)
          replace hB := Fr.below hR hB0 hB0.size hSge
          obtain ⟨tm20, rfl, htm20, hmt20⟩ := ho20
          have hx20 := Xs.of_new (B := 0) (M := [some b0, some b1, some b2, some b3, some b15, some b18, some b20, Value.ownBlock va]) (K := kAm) htm20 (fun b hb => .inr (hmt20.blk b hb)) (fun _ _ => Nat.zero_le _) hml20
          replace hmt20 := hmt20.mono hsz20
          refine .ops0 ?_
          refine At.wpcN (.cons rfl rfl rfl rfl (fun Lx => ?_) (.cons rfl rfl rfl rfl (fun Lx => ?_) (.cons rfl rfl rfl rfl (fun Lx => ?_) .nil))) ?_
          ·skip
           refine .fieldAddr rfl fo35_6 rfl (.ops0 ?_)
           exact fun a ha => ⟨ha, rfl⟩
          ·skip
           refine .load rfl (Ld.ownCell ag27 hb3 rfl) rfl (.ops0 ?_)
           exact fun a ha => ⟨ha, rfl⟩
          ·skip
           refine .lenSl rfl (Own.slOk hOl) el27 rfl (.ops0 ?_)
           exact fun a ha => ⟨ha, rfl⟩
          refine At.wpcE [6] (by kernel_rfl) (by kernel_rfl) (.cons [] rfl (by kernel_rfl) ?_ .nil)
          refine At.appendR (f := Am.cs) rfl rfl el27 el27 sz61 by61 ze61 rfl hOl (rows_own (f := Am.cs) (m := 1) hb20 (fun u hu => ((mem1 (Q := fun u => AmOk wp20 u) (((zeroAm_ok _)).keep (Below.refl _ _))) u hu).size) rfl (by decide)) (by decide) (fun u hu => (((mem1 (Q := fun u => AmOk wp20 u) (((zeroAm_ok _)).keep (Below.refl _ _)))) u hu).one) (by first | omega | (simp; omega)) (by first | omega | (simp; omega)) rfl (fun va2 w55 hO4 hA4 => ?_)
          replace hO4 : OwnR 61 23 Am.cs w55 va2 (la ++ [zeroAm]) := hO4
          replace hb0 := hA4.old hb0 (hOl.neT hb0 rfl)
          replace hb1 := hA4.old hb1 (hOl.neT hb1 rfl)
          replace hb2 := hA4.old hb2 (hOl.neT hb2 rfl)
          replace hb3 := hA4.old hb3 (hOl.neT hb3 rfl)
          replace hb15 := hA4.old hb15 (hOl.neT hb15 rfl)
          replace hb18 := hA4.old hb18 (hOl.neT hb18 rfl)
          clear hb20
          replace hXa := Xs.app hXa hA4 (.inr (by simp))
          replace hXk := Xs.app hXk hA4 (.inr (by simp))
          replace hx20 := Xs.app hx20 hA4 (.inr (by simp))
          have ghO4 := hA4.ge hR.size gOl
          replace hR := hR.appF hA4 (fun g hg => .inr (gOl g hg))
          replace hB := Fr.below hR hB0 hB0.size hSge
          refine .ops0 (.wpcN .nil ?_)
          obtain ⟨u6, hu6⟩ := some_of_lt (l := (la ++ [zeroAm])) (i := la.length) (by first | omega | (simp; done) | (simp; omega))
          refine At.wpcS (i := 7) (d := 159) (.pointer (some ⟨vBlock va2, vOff va2 + la.length * 23, none⟩)) (by kernel_rfl) rfl rfl rfl (fun Lx => ?_) ?_
          ·skip
           refine .indexAddr (i := la.length) rfl rfl (Own.slOk hO4) (lt_of_some hu6) el27 sz61 rfl (.ops0 ?_)
           exact fun a ha => ⟨ha, rfl⟩
          refine At.wpcS (i := 9) (d := 160) (.pointer (some ⟨b3, 0 + 6, none⟩)) (by kernel_rfl) rfl rfl rfl (fun Lx => ?_) ?_
          ·skip
           refine .fieldAddr rfl fo35_6 rfl (.ops0 ?_)
           exact fun a ha => ⟨ha, rfl⟩
          refine At.wpcE [8, 10] (by kernel_rfl) (by kernel_rfl) (.cons [9] rfl (by kernel_rfl) ?_ (.cons [7] rfl (by kernel_rfl) ?_ .nil))
          ·skip
           refine At.storeRow (f := Am.cs) (i := la.length) (off := 0) tm20 rfl rfl hO4 hu6 (fun u hu => (((all_app (Q := fun u => AmOk w55 u) (Xs.ok hXa) (mem1 (Q := fun u => AmOk w55 u) (((zeroAm_ok _)).keep (Below.refl _ _))))) u hu).size) (by omega) (sz61.trans (congrArg some ((Xs.one hx20)).size.symm)) (splice_all (((((all_app (Q := fun u => AmOk w55 u) (Xs.ok hXa) (mem1 (Q := fun u => AmOk w55 u) (((zeroAm_ok _)).keep (Below.refl _ _))))) u6 (List.mem_of_getElem? hu6))).size.trans ((Xs.one hx20)).size.symm)).symm (by show 0 + tm20.cs.size ≤ 23; rw [((Xs.one hx20)).size]; decide) ((Xs.one hx20)).one (fun w56 hO5 hA5 => ?_)
           replace hb0 := hA5.old hb0 (hO4.neT hb0 rfl)
           replace hb1 := hA5.old hb1 (hO4.neT hb1 rfl)
           replace hb2 := hA5.old hb2 (hO4.neT hb2 rfl)
           replace hb3 := hA5.old hb3 (hO4.neT hb3 rfl)
           replace hb15 := hA5.old hb15 (hO4.neT hb15 rfl)
           replace hb18 := hA5.old hb18 (hO4.neT hb18 rfl)
           replace hXa := Xs.app hXa hA5 (.inr (by simp))
           replace hXk := Xs.app hXk hA5 (.inr (by simp))
           replace hx20 := Xs.app hx20 hA5 (.inr (by simp))
           replace hR := hR.appF hA5 (fun g hg => .inr (ghO4 g hg))
           replace hB := Fr.below hR hB0 hB0.size hSge
           refine .ops0 ?_
           refine At.wpcN (.cons rfl rfl rfl rfl (fun Lx => ?_) .nil) ?_
           ·skip
            refine .fieldAddr rfl fo35_6 rfl (.ops0 ?_)
            exact fun a ha => ⟨ha, rfl⟩
           refine At.wpcE [10] (by kernel_rfl) (by kernel_rfl) (.cons [] rfl (by kernel_rfl) ?_ .nil)
           refine At.store1 rfl rfl hb3 sz27 (by simp) (hO5).one (fun w57 S23 => ?_)
           replace hb0 := S23.other hb0 n_b0_b3
           replace hb1 := S23.other hb1 n_b1_b3
           replace hb2 := S23.other hb2 n_b2_b3
           replace hb15 := S23.other hb15 n_b3_b15.symm
           replace hb18 := S23.other hb18 n_b3_b18.symm
           replace hO5 := hO5.set S23 (hO5.neT hb3 rfl)
           replace hXa := Xs.set hXa S23 (by simp)
           replace hXk := Xs.set hXk S23 (by simp)
           replace hx20 := Xs.set hx20 S23 (by simp)
           replace hb3 : w57.heap[b3]? = some (.cells #[.int .i64 14, .int .i64 ((nx en ts).a), .string (bs x14.t), zS, zI, (.slice (some ⟨b15, 0, none⟩) 1 1), va2, zI, zS, zI, zN, zN, zI, zN, zI, zI, zS, zI, zN, zN, zI] 35) := S23.new
           replace hR := hR.setF S23 (.inr gb3)
           replace hB := Fr.below hR hB0 hB0.size hSge
           refine .ops0 (.wpcN .nil (.wpcZ (.inN (.thenN ?_))))
           exact fun act_ hact_ => ⟨(us20, vr20, (f - 1), va2, (la ++ [tm20]), (xa ++ [x20])), hact_.sub (Sub.cons rfl (Sub.cons rfl (Sub.cons rfl Sub.nil))), ⟨hR, hb0, hb1, hb2, hb3, hb15, (by have q := hO5; rw [set_snoc] at q; exact q), (Xs.append (Xs.weaken (M' := [Value.ownBlock va2, some b0, some b1, some b2, some b3, some b15]) hXa (SubM.cons (.head _) (SubM.cons (.tail _ (.tail _ (.tail _ (.tail _ (.tail _ (.head _)))))) (SubM.cons (.tail _ (.tail _ (.tail _ (.tail _ (.tail _ (.tail _ (.head _))))))) (SubM.cons (.tail _ (.tail _ (.tail _ (.tail _ (.tail _ (.tail _ (.tail _ (.head _)))))))) (SubM.cons (.tail _ (.tail _ (.tail _ (.tail _ (.tail _ (.tail _ (.tail _ (.tail _ (.head _))))))))) (SubM.cons (.tail _ (.tail _ (.tail _ (.tail _ (.tail _ (.tail _ (.tail _ (.tail _ (.tail _ (.head _)))))))))) SubM.nil))))))) (Xs.weaken (M' := [Value.ownBlock va2, some b0, some b1, some b2, some b3, some b15]) hx20 (SubM.cons (.head _) (SubM.cons (.tail _ (.tail _ (.head _))) (SubM.cons (.tail _ (.tail _ (.tail _ (.head _)))) (SubM.cons (.tail _ (.tail _ (.tail _ (.tail _ (.head _))))) (SubM.cons (.tail _ (.tail _ (.tail _ (.tail _ (.tail _ (.head _)))))) (SubM.cons (.tail _ (.tail _ (.tail _ (.tail _ (.tail _ (.tail _ (.head _))))))) SubM.nil)))))))), (Xs.weaken (M' := [Value.ownBlock va2, some b0, some b1, some b2, some b3, some b15]) hXk (SubM.cons (.head _) (SubM.cons (.tail _ (.tail _ (.tail _ (.tail _ (.tail _ (.head _)))))) (SubM.cons (.tail _ (.tail _ (.tail _ (.tail _ (.tail _ (.tail _ (.head _))))))) (SubM.cons (.tail _ (.tail _ (.tail _ (.tail _ (.tail _ (.tail _ (.tail _ (.head _)))))))) (SubM.cons (.tail _ (.tail _ (.tail _ (.tail _ (.tail _ (.tail _ (.tail _ (.tail _ (.head _))))))))) (SubM.cons (.tail _ (.tail _ (.tail _ (.tail _ (.tail _ (.tail _ (.tail _ (.tail _ (.tail _ (.head _)))))))))) SubM.nil))))))), (hts20), (by obtain ⟨q, rfl⟩ : ∃ q, f = q + 1 := ⟨f - 1, by omega⟩; rw [hs, clausesP]; simp only [smB, hc1, hc2, hc3, hc4, hc5, hc6, hc7, hc8, hq14, hq15, hq16, hq17, hq20, cond_true, PR.bind_ok]; rfl), (by have := hln; have := tail_len (is_len hc8); have := PR.Sh.of (clause_sh hxs false us.tail) hq20; omega), (ghO4), (MAL.snoc hTa hmt20), (by have := hln; have := tail_len (is_len hc8); have := PR.Sh.of (clause_sh hxs false us.tail) hq20; simp; omega)⟩, by first | omega | (dsimp only; omega)⟩
          ·skip
           refine At.store1 rfl rfl hb3 sz27 (by simp) (hO4).one (fun w58 S24 => ?_)
           replace hb0 := S24.other hb0 n_b0_b3
           replace hb1 := S24.other hb1 n_b1_b3
           replace hb2 := S24.other hb2 n_b2_b3
           replace hb15 := S24.other hb15 n_b3_b15.symm
           replace hb18 := S24.other hb18 n_b3_b18.symm
           replace hO4 := hO4.set S24 (hO4.neT hb3 rfl)
           replace hXa := Xs.set hXa S24 (by simp)
           replace hXk := Xs.set hXk S24 (by simp)
           replace hx20 := Xs.set hx20 S24 (by simp)
           replace hb3 : w58.heap[b3]? = some (.cells #[.int .i64 14, .int .i64 ((nx en ts).a), .string (bs x14.t), zS, zI, (.slice (some ⟨b15, 0, none⟩) 1 1), va2, zI, zS, zI, zN, zN, zI, zN, zI, zI, zS, zI, zN, zN, zI] 35) := S24.new
           replace hR := hR.setF S24 (.inr gb3)
           replace hB := Fr.below hR hB0 hB0.size hSge
           refine .ops0 ?_
           refine At.wpcN (.cons rfl rfl rfl rfl (fun Lx => ?_) .nil) ?_
           ·skip
            refine .indexAddr (i := la.length) rfl rfl (Own.slOk hO4) (lt_of_some hu6) el27 sz61 rfl (.ops0 ?_)
            exact fun a ha => ⟨ha, rfl⟩
           refine At.wpcE [8] (by kernel_rfl) (by kernel_rfl) (.cons [] rfl (by kernel_rfl) ?_ .nil)
           refine At.storeRow (f := Am.cs) (i := la.length) (off := 0) tm20 rfl rfl hO4 hu6 (fun u hu => (((all_app (Q := fun u => AmOk w58 u) (Xs.ok hXa) (mem1 (Q := fun u => AmOk w58 u) (((zeroAm_ok _)).keep (Below.refl _ _))))) u hu).size) (by omega) (sz61.trans (congrArg some ((Xs.one hx20)).size.symm)) (splice_all (((((all_app (Q := fun u => AmOk w58 u) (Xs.ok hXa) (mem1 (Q := fun u => AmOk w58 u) (((zeroAm_ok _)).keep (Below.refl _ _))))) u6 (List.mem_of_getElem? hu6))).size.trans ((Xs.one hx20)).size.symm)).symm (by show 0 + tm20.cs.size ≤ 23; rw [((Xs.one hx20)).size]; decide) ((Xs.one hx20)).one (fun w59 hO6 hA6 => ?_)
           replace hb0 := hA6.old hb0 (hO4.neT hb0 rfl)
           replace hb1 := hA6.old hb1 (hO4.neT hb1 rfl)
           replace hb2 := hA6.old hb2 (hO4.neT hb2 rfl)
           replace hb3 := hA6.old hb3 (hO4.neT hb3 rfl)
           replace hb15 := hA6.old hb15 (hO4.neT hb15 rfl)
           replace hb18 := hA6.old hb18 (hO4.neT hb18 rfl)
           replace hXa := Xs.app hXa hA6 (.inr (by simp))
           replace hXk := Xs.app hXk hA6 (.inr (by simp))
           replace hx20 := Xs.app hx20 hA6 (.inr (by simp))
           replace hR := hR.appF hA6 (fun g hg => .inr (ghO4 g hg))
           replace hB := Fr.below hR hB0 hB0.size hSge
           refine .ops0 (.wpcN .nil (.wpcZ (.inN (.thenN ?_))))
           exact fun act_ hact_ => ⟨(us20, vr20, (f - 1), va2, (la ++ [tm20]), (xa ++ [x20])), hact_.sub (Sub.cons rfl (Sub.cons rfl (Sub.cons rfl Sub.nil))), ⟨hR, hb0, hb1, hb2, hb3, hb15, (by have q := hO6; rw [set_snoc] at q; exact q), (Xs.append (Xs.weaken (M' := [Value.ownBlock va2, some b0, some b1, some b2, some b3, some b15]) hXa (SubM.cons (.head _) (SubM.cons (.tail _ (.tail _ (.tail _ (.tail _ (.tail _ (.head _)))))) (SubM.cons (.tail _ (.tail _ (.tail _ (.tail _ (.tail _ (.tail _ (.head _))))))) (SubM.cons (.tail _ (.tail _ (.tail _ (.tail _ (.tail _ (.tail _ (.tail _ (.head _)))))))) (SubM.cons (.tail _ (.tail _ (.tail _ (.tail _ (.tail _ (.tail _ (.tail _ (.tail _ (.head _))))))))) (SubM.cons (.tail _ (.tail _ (.tail _ (.tail _ (.tail _ (.tail _ (.tail _ (.tail _ (.tail _ (.head _)))))))))) SubM.nil))))))) (Xs.weaken (M' := [Value.ownBlock va2, some b0, some b1, some b2, some b3, some b15]) hx20 (SubM.cons (.head _) (SubM.cons (.tail _ (.tail _ (.head _))) (SubM.cons (.tail _ (.tail _ (.tail _ (.head _)))) (SubM.cons (.tail _ (.tail _ (.tail _ (.tail _ (.head _))))) (SubM.cons (.tail _ (.tail _ (.tail _ (.tail _ (.tail _ (.head _)))))) (SubM.cons (.tail _ (.tail _ (.tail _ (.tail _ (.tail _ (.tail _ (.head _))))))) SubM.nil)))))))), (Xs.weaken (M' := [Value.ownBlock va2, some b0, some b1, some b2, some b3, some b15]) hXk (SubM.cons (.head _) (SubM.cons (.tail _ (.tail _ (.tail _ (.tail _ (.tail _ (.head _)))))) (SubM.cons (.tail _ (.tail _ (.tail _ (.tail _ (.tail _ (.tail _ (.head _))))))) (SubM.cons (.tail _ (.tail _ (.tail _ (.tail _ (.tail _ (.tail _ (.tail _ (.head _)))))))) (SubM.cons (.tail _ (.tail _ (.tail _ (.tail _ (.tail _ (.tail _ (.tail _ (.tail _ (.head _))))))))) (SubM.cons (.tail _ (.tail _ (.tail _ (.tail _ (.tail _ (.tail _ (.tail _ (.tail _ (.tail _ (.head _)))))))))) SubM.nil))))))), (hts20), (by obtain ⟨q, rfl⟩ : ∃ q, f = q + 1 := ⟨f - 1, by omega⟩; rw [hs, clausesP]; simp only [smB, hc1, hc2, hc3, hc4, hc5, hc6, hc7, hc8, hq14, hq15, hq16, hq17, hq20, cond_true, PR.bind_ok]; rfl), (by have := hln; have := tail_len (is_len hc8); have := PR.Sh.of (clause_sh hxs false us.tail) hq20; omega), (ghO4), (MAL.snoc hTa hmt20), (by have := hln; have := tail_len (is_len hc8); have := PR.Sh.of (clause_sh hxs false us.tail) hq20; simp; omega)⟩, by first | omega | (dsimp only; omega)⟩
        ·skip
         refine .exit (.thenE (.thenE (.inE (.thenN (.region (.load rfl (Ld.ownCell ag77 hb1 rfl) rfl ?_))))))
         refine At.buildSlice (xs := [.const (.string (⟨#[125]⟩ : ByteArray))]) rfl rfl el29 sz9 ze9 (by intro v hv; simp only [List.mem_cons, List.not_mem_nil, or_false] at hv; rcases hv with rfl <;> first | rfl | simp [Value.cells]) rfl (by decide) rfl (fun b21 w60 F21 => ?_)
         have n_b0_b21 : b0 ≠ b21 := Nat.ne_of_lt (F21.lt hb0)
         have n_b1_b21 : b1 ≠ b21 := Nat.ne_of_lt (F21.lt hb1)
         have n_b2_b21 : b2 ≠ b21 := Nat.ne_of_lt (F21.lt hb2)
         have n_b3_b21 : b3 ≠ b21 := Nat.ne_of_lt (F21.lt hb3)
         have n_b15_b21 : b15 ≠ b21 := Nat.ne_of_lt (F21.lt hb15)
         have n_b18_b21 : b18 ≠ b21 := Nat.ne_of_lt (F21.lt hb18)
         have gb21 := Nat.le_trans hR.size (Nat.le_of_eq F21.eq.symm)
         replace hb0 := F21.old hb0
         replace hb1 := F21.old hb1
         replace hb2 := F21.old hb2
         replace hb3 := F21.old hb3
         replace hb15 := F21.old hb15
         replace hb18 := F21.old hb18
         replace hOl := hOl.fresh F21
         replace hXa := Xs.fresh hXa F21
         replace hXk := Xs.fresh hXk F21
         have hb21 : w60.heap[b21]? = some (.cells #[.string (⟨#[125]⟩ : ByteArray)] 9) := F21.new
         replace hR := hR.freshF F21
         replace hB := Fr.below hR hB0 hB0.size hSge
         refine At.callP en65 rfl rfl (ptext_any us vr (.slice (some ⟨b21, 0, none⟩) 1 1) ([(⟨#[125]⟩ : ByteArray)]) _ hB hSge hus hb0 ((StrsAt.own (ss := [(⟨#[125]⟩ : ByteArray)]) hb21 rfl (by decide) : StrsAt _ (.slice (some ⟨b21, 0, none⟩) 1 1) [(⟨#[125]⟩ : ByteArray)])) (fun _ => show b21 ≠ b0 from n_b0_b21.symm)) (fun e wp21 hR' => ?_)
         rcases hR'.cases.symm with ⟨ba, bc, hq21, rfl, hF21, hbb⟩ | ⟨x21, us21, val21, vr21, hq21, rfl, hF21, hts21, hbo21, ho21⟩
         ·exact .inr ⟨_, rfl, (Exists.elim hbb fun vb h1 => Exists.elim h1 fun db hb9 => (Pk.block (Pk.then (Pk.bodyD1 (fun u => expr1_any _ u _ hb9 (hF21.old _ _ (by intro hk; first | exact n_b0_b1 hk.symm | (rcases hk with hk | hk; exact n_b0_b1 hk.symm; exact n_b1_b3 hk)) hb1)) (fun w9 hK => RetP.badThen (d := 0) (RetP.bad (by rw [exprS]; simp only [hc1, cond_false]; obtain ⟨q, rfl⟩ : ∃ q, f = q + 1 := ⟨f - 1, by omega⟩; rw [hs, clausesP]; simp only [exprS, exB, listOne_eq, wayOne_eq, SB, hc1, hc2, hc3, hc4, hc5, hc6, hc7, hc8, hq14, hq15, hq16, hq17, hq21] <;> rfl) (Fr.then hR hF21 (fun k hk => .inl hk)) hbb) hK.2 (fun k hk => hk) ⟨_, _, hK.1⟩)))))⟩
         refine .inl ⟨_, rfl, ?_⟩
         replace hb1 := Fr.oldB hF21 hb1 (n_b0_b1.symm)
         replace hb2 := Fr.oldB hF21 hb2 (n_b0_b2.symm)
         replace hb3 := Fr.oldB hF21 hb3 (n_b0_b3.symm)
         replace hb15 := Fr.oldB hF21 hb15 (n_b0_b15.symm)
         replace hb18 := Fr.oldB hF21 hb18 (n_b0_b18.symm)
         replace hb21 := Fr.oldB hF21 hb21 (n_b0_b21.symm)
         replace hOl := OwnR.frB hOl hF21 hb0 rfl
         replace hXa := Xs.frS hXa hF21 (by rintro k rfl; simp)
         replace hXk := Xs.frS hXk hF21 (by rintro k rfl; simp)
         replace hb0 := hbo21
         have hsz21 := hR.size
         replace hR := Fr.then hR hF21 (fun k hk => .inl hk)
         replace hB := Fr.below hR hB0 hB0.size hSge
         obtain rfl := ho21
         refine .ops0 (.inN (.thenN (.seq (.region (.load rfl (Ld.own (C := #[.int .i64 14, .int .i64 ((nx en ts).a), .string (bs x14.t), zS, zI, (.slice (some ⟨b15, 0, none⟩) 1 1), va, zI, zS, zI, zN, zN, zI, zN, zI, zI, zS, zI, zN, zN, zI]) ag35 sz35 hb3) rfl ?_)))))
         refine At.storeAll rfl rfl hb2 sz35 rfl (by first | (simp [Value.oneCell', (hOl).one, ((SlOk.nil)).one]; done) | (simp only [List.all_toArray, List.all_cons, List.all_nil, (hOl).one, ((SlOk.nil)).one, Bool.and_true, Bool.true_and]; rfl)) (fun w61 S25 => ?_)
         replace hb0 := S25.other hb0 n_b0_b2
         replace hb1 := S25.other hb1 n_b1_b2
         replace hb3 := S25.other hb3 n_b2_b3.symm
         replace hb15 := S25.other hb15 n_b2_b15.symm
         replace hb18 := S25.other hb18 n_b2_b18.symm
         replace hb21 := S25.other hb21 n_b2_b21.symm
         replace hOl := hOl.set S25 (hOl.neT hb2 rfl)
         replace hXa := Xs.set hXa S25 (by simp)
         replace hXk := Xs.set hXk S25 (by simp)
         replace hb2 : w61.heap[b2]? = some (.cells #[.int .i64 14, .int .i64 ((nx en ts).a), .string (bs x14.t), zS, zI, (.slice (some ⟨b15, 0, none⟩) 1 1), va, zI, zS, zI, zN, zN, zI, zN, zI, zI, zS, zI, zN, zN, zI] 35) := S25.new
         replace hR := hR.setF S25 (.inr gb2)
         replace hB := Fr.below hR hB0 hB0.size hSge
         refine .ops0 (.thenN (.retc ?_))
         refine At.doneDR en72 (fun u => expr1_any _ u _ hb0 hb1) (fun w9 hK => ?_)
         obtain ⟨hb0n, hF9⟩ := hK
         replace hb1 := Fr.oldB hF9 hb1 (n_b0_b1.symm)
         replace hb2 := Fr.oldB hF9 hb2 (n_b0_b2.symm)
         replace hb3 := Fr.oldB hF9 hb3 (n_b0_b3.symm)
         replace hb15 := Fr.oldB hF9 hb15 (n_b0_b15.symm)
         replace hb18 := Fr.oldB hF9 hb18 (n_b0_b18.symm)
         replace hb21 := Fr.oldB hF9 hb21 (n_b0_b21.symm)
         replace hOl := OwnR.frB hOl hF9 hb0 rfl
         replace hXa := Xs.frS hXa hF9 (by rintro k rfl; simp)
         replace hXk := Xs.frS hXk hF9 (by rintro k rfl; simp)
         rw [wrap_sub (by omega)] at hb0n
         replace hb0 := hb0n
         replace hR := Fr.then hR hF9 (fun k hk => .inl hk)
         refine ⟨_, ResV.cell rfl (Ld.own (C := #[.int .i64 14, .int .i64 ((nx en ts).a), .string (bs x14.t), zS, zI, (.slice (some ⟨b15, 0, none⟩) 1 1), va, zI, zS, zI, zN, zN, zI, zN, zI, zI, zS, zI, zN, zN, zI]) ag35 sz35 hb2) ResV.nil, ?_⟩
         exact RetP.ok (x := (ST.mk 14 ((nx en ts).a) (bs x14.t) (⟨#[]⟩ : ByteArray) 0 [x15] xa)) (by rw [exprS]; simp only [hc1, cond_false]; obtain ⟨q, rfl⟩ : ∃ q, f = q + 1 := ⟨f - 1, by omega⟩; rw [hs, clausesP]; simp only [exprS, exB, listOne_eq, wayOne_eq, SB, hc1, hc2, hc3, hc4, hc5, hc6, hc7, hc8, hq14, hq15, hq16, hq17, hq21] <;> rfl) hR hts21 hb0 ⟨(tmA 14 ((nx en ts).a) (bs x14.t) (⟨#[]⟩ : ByteArray) 0 (.slice (some ⟨b15, 0, none⟩) 1 1) [tm15] va la), rfl, (tmA_ok (rows_tm (m := 1) hb15 (mem1 (Q := fun u => TmOk w9 u) (((Xs.one hXk)).keep (Below.refl _ _))) rfl (by decide)) (Xs.ok (Xs.cons (Xs.weaken (M' := []) hXk SubM.nil) (Xs.nil _ _ _))) (OwnR.rows hOl (fun u hu => (((Xs.ok hXa)) u hu).size)) (Xs.ok (Xs.weaken (M' := []) hXa SubM.nil))), (MT.made (k := 14) (a := (nx en ts).a) (nm := (bs x14.t)) (pm := (⟨#[]⟩ : ByteArray)) (n := 0) (MTL.one hmt15) hTa (fun _ => gb15) (fun hn => OwnR.vbGe hOl gOl hn))⟩
       ·skip
        refine .seq (.region (.load rfl (Ld.ownCell ag77 hb1 rfl) rfl ?_))
        have hml22 : MLt w37.heap.size [some b0, some b1, some b2, some b3, some b4, some b6, some b8, some b10, some b12, some b14] := (MLt.blk hb0 (MLt.blk hb1 (MLt.blk hb2 (MLt.blk hb3 (MLt.blk hb4 (MLt.blk hb6 (MLt.blk hb8 (MLt.blk hb10 (MLt.blk hb12 (MLt.blk hb14 (MLt.nil _)))))))))))
        refine At.callP en79 rfl rfl (assign_any ts v ex _ hB hSge hts hb0 (hbig) hxs (hex hdp)) (fun e wp22 hR' => ?_)
        rcases hR'.cases.symm with ⟨ba, bc, hq22, rfl, hF22, hbb⟩ | ⟨x22, us22, val22, vr22, hq22, rfl, hF22, hts22, hbo22, ho22⟩
        ·exact .inr ⟨_, rfl, (Exists.elim hbb fun vb h1 => Exists.elim h1 fun db hb9 => (Pk.then (Pk.block (Pk.then (Pk.bodyD1 (fun u => expr1_any _ u _ hb9 (hF22.old _ _ (by intro hk; first | exact n_b0_b1 hk.symm | (rcases hk with hk | hk; exact n_b0_b1 hk.symm; exact n_b1_b3 hk)) hb1)) (fun w9 hK => RetP.badThen (d := 0) (RetP.bad (by simp only [exprS, exB, listOne_eq, wayOne_eq, SB, hc1, hc2, hc3, hc4, hc5, hc6, hc7, hq22] <;> rfl) (Fr.then hR hF22 (fun k hk => .inl hk)) hbb) hK.2 (fun k hk => hk) ⟨_, _, hK.1⟩))))))⟩
        refine .inl ⟨_, rfl, ?_⟩
        replace hb1 := Fr.oldB hF22 hb1 (n_b0_b1.symm)
        replace hb2 := Fr.oldB hF22 hb2 (n_b0_b2.symm)
        replace hb3 := Fr.oldB hF22 hb3 (n_b0_b3.symm)
        replace hb4 := Fr.oldB hF22 hb4 (n_b0_b4.symm)
        replace hb6 := Fr.oldB hF22 hb6 (n_b0_b6.symm)
        replace hb8 := Fr.oldB hF22 hb8 (n_b0_b8.symm)
        replace hb10 := Fr.oldB hF22 hb10 (n_b0_b10.symm)
        replace hb12 := Fr.oldB hF22 hb12 (n_b0_b12.symm)
        replace hb14 := Fr.oldB hF22 hb14 (n_b0_b14.symm)
        replace hb0 := hbo22
        have hsz22 := hR.size
        replace hR := Fr.then hR hF22 (fun k hk => .inl hk)
        replace hB := Fr.below hR hB0 hB0.size hSge
        obtain ⟨tm22, rfl, htm22, hmt22⟩ := ho22
        have hx22 := Xs.of_new (B := 0) (M := [some b0, some b1, some b2, some b3, some b4, some b6, some b8, some b10, some b12, some b14]) (K := kTm) htm22 (fun b hb => .inr (hmt22.blk b hb)) (fun _ _ => Nat.zero_le _) hml22
        replace hmt22 := hmt22.mono hsz22
        refine At.storeAll rfl rfl hb2 (sz35.trans (congrArg some ((Xs.one hx22)).size.symm)) ((Xs.one hx22)).size.symm ((Xs.one hx22)).one (fun w62 S26 => ?_)
        replace hb0 := S26.other hb0 n_b0_b2
        replace hb1 := S26.other hb1 n_b1_b2
        replace hb3 := S26.other hb3 n_b2_b3.symm
        replace hb4 := S26.other hb4 n_b2_b4.symm
        replace hb6 := S26.other hb6 n_b2_b6.symm
        replace hb8 := S26.other hb8 n_b2_b8.symm
        replace hb10 := S26.other hb10 n_b2_b10.symm
        replace hb12 := S26.other hb12 n_b2_b12.symm
        replace hb14 := S26.other hb14 n_b2_b14.symm
        replace hx22 := Xs.set hx22 S26 (by simp)
        replace hb2 : w62.heap[b2]? = some (.cells tm22.cs 35) := S26.new
        replace hR := hR.setF S26 (.inr gb2)
        replace hB := Fr.below hR hB0 hB0.size hSge
        refine .ops0 (.thenN (.retc (.inR (.thenR ?_))))
        refine At.doneDR en72 (fun u => expr1_any _ u _ hb0 hb1) (fun w9 hK => ?_)
        obtain ⟨hb0n, hF9⟩ := hK
        replace hb1 := Fr.oldB hF9 hb1 (n_b0_b1.symm)
        replace hb2 := Fr.oldB hF9 hb2 (n_b0_b2.symm)
        replace hb3 := Fr.oldB hF9 hb3 (n_b0_b3.symm)
        replace hb4 := Fr.oldB hF9 hb4 (n_b0_b4.symm)
        replace hb6 := Fr.oldB hF9 hb6 (n_b0_b6.symm)
        replace hb8 := Fr.oldB hF9 hb8 (n_b0_b8.symm)
        replace hb10 := Fr.oldB hF9 hb10 (n_b0_b10.symm)
        replace hb12 := Fr.oldB hF9 hb12 (n_b0_b12.symm)
        replace hb14 := Fr.oldB hF9 hb14 (n_b0_b14.symm)
        replace hx22 := Xs.frS hx22 hF9 (by rintro k rfl; simp)
        rw [wrap_sub (by omega)] at hb0n
        replace hb0 := hb0n
        replace hR := Fr.then hR hF9 (fun k hk => .inl hk)
        refine ⟨_, ResV.cell rfl (Ld.own ag35 (sz35.trans (congrArg some ((Xs.one hx22)).size.symm)) hb2) ResV.nil, ?_⟩
        exact RetP.ok (x := x22) (by simp only [exprS, exB, listOne_eq, wayOne_eq, SB, hc1, hc2, hc3, hc4, hc5, hc6, hc7, hq22] <;> rfl) hR hts22 hb0 ⟨tm22, rfl, (Xs.one hx22), hmt22⟩
end Go.Proofs.Ytkjmjnddanhapaa
