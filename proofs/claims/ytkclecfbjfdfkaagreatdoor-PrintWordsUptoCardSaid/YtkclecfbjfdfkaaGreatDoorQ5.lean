/-
 The walks of Print and Term. Written by a program of ours.
-/
import Derived.Test.YtkclecfbjfdfkaaGreatDoorP4
set_option linter.unusedVariables false
set_option linter.unusedSimpArgs false
namespace Go.Proofs.YtkclecfbjfdfkaaGreatDoor
open Go.RowKit
theorem ag35 : aggB Tryz.prog 35 = some true := by kernel_rfl
theorem en10 : entB Tryz.prog 10 = true := by kernel_rfl
theorem en22 : entB Tryz.prog 22 = true := by kernel_rfl
theorem en23 : entB Tryz.prog 23 = true := by kernel_rfl
theorem en24 : entB Tryz.prog 24 = true := by kernel_rfl
theorem en26 : entB Tryz.prog 26 = true := by kernel_rfl
theorem sd68 : sizedB Tryz.prog 68 = true := by kernel_rfl
theorem sz35 : sizeB Tryz.prog 35 = some 23 := by kernel_rfl
theorem sz64 : sizeB Tryz.prog 64 = some 1 := by kernel_rfl
theorem ze64 : zeroB Tryz.prog 64 = some (.pointer none) := by kernel_rfl
theorem ze68 : zeroB Tryz.prog 68 = some (.agg #[(.slice none 0 0)]) := by kernel_rfl
theorem opi_any (b0 : Nat) (v : Value) (ls : List ByteArray) (w0 : World) (x : Eff) (p1 p2 : Nat) (i : Nat) (s : Op) (w : World) (hB0 : Below w0.heap.size w0 w) (hbg : w0.heap.size ≤ b0) (gO : ∀ g, v.ownBlock = some g → w0.heap.size ≤ g) (hb0 : w.heap[b0]? = some (.cells #[v] 68)) (hO : OwnS 9 w v ls) (hx : EffOk w0 x) (hp1 : w.heap[p1]? = some (.cells x.cs 58)) (hp2 : w.heap[p2]? = some (.cells #[.pointer (some ⟨b0, 0, none⟩)] 64)) (n_b0_p1 : b0 ≠ p1) (n_b0_p2 : b0 ≠ p2) (n_p1_p2 : p1 ≠ p2) (hs : x.ops[i]? = some s) (hra : (s.arg.k ≠ 4 → 1 ≤ s.arg.k ∧ s.arg.k ≤ 3)) (hrb : (s.res.k ≠ 4 → 1 ≤ s.res.k ∧ s.res.k ≤ 3)) (hl : ls.length + (opW s).length ≤ 4398046511104) :
  Calls Tryz.prog 22 ([.int .i64 (i : Int), .pointer (some ⟨p1, 0, none⟩), .pointer (some ⟨p2, 0, none⟩)] : List Value).toArray w fun e w' => ∃ v', e = .returned (.tuple #[]) ∧ w'.heap[b0]? = some (.cells #[v'] 68) ∧ OwnS 9 w' v' (ls ++ opW s) ∧ Fr (fun k => k = b0 ∨ some k = v.ownBlock) w w' ∧ Moved w v v' := by
 have hSge := ws_ge hbg gO
 have hM := Moved.refl w v
 have hR := Fr.refl (fun k => k = b0 ∨ some k = v.ownBlock) w
 have hB := hB0
 refine At.enter (N := 23) Tryz.func22 rfl rfl (by simp) [(0, .int .i64 (i : Int)), (1, .pointer (some ⟨p1, 0, none⟩)), (2, .pointer (some ⟨p2, 0, none⟩))] (by simp) ?_
 refine At.seq ?_
 refine At.region ?_
 refine At.fieldAddr rfl fo58_1 rfl ?_
 refine At.load rfl (Ld.ownCell ag56 hp1 (hx).c1) rfl ?_
 refine At.move rfl rfl ?_
 refine At.indexAddr (i := i) rfl rfl ((hx).opsAt).okL (lt_of_some hs) el56 sz72 rfl ?_
 refine At.load rfl (Ld.row ag72 (sz72.trans (congrArg some (((hx).op hs)).size.symm)) ((((hx).opsAt).row hs).keep hB)) rfl ?_
 refine At.alloc ze72 rfl (fun b1 w1 F1 => ?_)
 have n_b0_b1 : b0 ≠ b1 := Nat.ne_of_lt (F1.lt hb0)
 have n_p1_b1 : p1 ≠ b1 := Nat.ne_of_lt (F1.lt hp1)
 have n_p2_b1 : p2 ≠ b1 := Nat.ne_of_lt (F1.lt hp2)
 have gb1 := Nat.le_trans hR.size (Nat.le_of_eq F1.eq.symm)
 replace hb0 := F1.old hb0
 replace hp1 := F1.old hp1
 replace hp2 := F1.old hp2
 replace hO := hO.fresh F1
 have hb1 : w1.heap[b1]? = some (.cells #[.string (⟨#[]⟩ : ByteArray), .int .i64 0, .string (⟨#[]⟩ : ByteArray), .int .i64 0, (.slice none 0 0), (.slice none 0 0), .int .i64 0, .int .i64 0, .string (⟨#[]⟩ : ByteArray), .int .i64 0, (.slice none 0 0), (.slice none 0 0), .int .i64 0] 72) := F1.new
 replace hR := hR.freshF F1
 replace hB := Fr.below hR hB0 hB0.size hSge
 refine At.storeAll rfl rfl hb1 (sz72.trans (congrArg some (((hx).op hs)).size.symm)) (((hx).op hs)).size.symm (((hx).op hs)).one (fun w2 S1 => ?_)
 replace hb0 := S1.other hb0 n_b0_b1
 replace hp1 := S1.other hp1 n_p1_b1
 replace hp2 := S1.other hp2 n_p2_b1
 replace hO := hO.set S1 (hO.neT hb1 rfl)
 replace hb1 : w2.heap[b1]? = some (.cells s.cs 72) := S1.new
 replace hR := hR.setF S1 (.inr gb1)
 replace hB := Fr.below hR hB0 hB0.size hSge
 refine At.ops0 ?_
 refine At.thenN ?_
 refine At.drawG (n := 13) mixed (by kernel_rfl) rfl PanicOk.body ?_
 have hR := Fr.drewF hR
 have hB := Below.drewB hB
 have hb0 : _ := (show w2.drew.heap[b0]? = _ from hb0)
 have hp1 : _ := (show w2.drew.heap[p1]? = _ from hp1)
 have hp2 : _ := (show w2.drew.heap[p2]? = _ from hp2)
 have hb1 : _ := (show w2.drew.heap[b1]? = _ from hb1)
 have hO := hO.drew
 refine At.wpcS (i := 0) (d := 10) (.pointer (some ⟨b0, 0, none⟩)) (by kernel_rfl) rfl rfl rfl (fun Lx => ?_) ?_
 ·skip
  refine At.load rfl (Ld.ownCell ag64 hp2 rfl) rfl ?_
  refine At.ops0 ?_
  exact fun a ha => ⟨ha, rfl⟩
 refine At.wpcS (i := 1) (d := 11) (.pointer (some ⟨b0, 0, none⟩)) (by kernel_rfl) rfl rfl rfl (fun Lx => ?_) ?_
 ·skip
  refine At.nilCheck rfl rfl ?_
  refine At.ops0 ?_
  exact fun a ha => ⟨ha, rfl⟩
 refine At.wpcS (i := 2) (d := 12) (.pointer (some ⟨b0, 0 + 0, none⟩)) (by kernel_rfl) rfl rfl rfl (fun Lx => ?_) ?_
 ·skip
  refine At.fieldAddr rfl fo68_0 rfl ?_
  refine At.ops0 ?_
  exact fun a ha => ⟨ha, rfl⟩
 refine At.wpcS (i := 3) (d := 13) (.pointer (some ⟨b1, 0 + 0, none⟩)) (by kernel_rfl) rfl rfl rfl (fun Lx => ?_) ?_
 ·skip
  refine At.fieldAddr rfl fo72_0 rfl ?_
  refine At.ops0 ?_
  exact fun a ha => ⟨ha, rfl⟩
 refine At.wpcS (i := 4) (d := 14) (.string s.nm) (by kernel_rfl) rfl rfl rfl (fun Lx => ?_) ?_
 ·skip
  refine At.load rfl (Ld.ownCell ag9 hb1 (((hx).op hs)).c0) rfl ?_
  refine At.ops0 ?_
  exact fun a ha => ⟨ha, rfl⟩
 refine At.wpcS (i := 5) (d := 15) (.pointer (some ⟨b1, 0 + 1, none⟩)) (by kernel_rfl) rfl rfl rfl (fun Lx => ?_) ?_
 ·skip
  refine At.fieldAddr rfl fo72_1 rfl ?_
  refine At.ops0 ?_
  exact fun a ha => ⟨ha, rfl⟩
 refine At.wpcS (i := 6) (d := 16) (.agg s.arg.cs) (by kernel_rfl) rfl rfl rfl (fun Lx => ?_) ?_
 ·skip
  refine At.load rfl (Ld.ownPart ag31 (sz31.trans (congrArg some ((((hx).op hs)).argOk).size.symm)) hb1 (((hx).op hs)).argCs) rfl ?_
  refine At.ops0 ?_
  exact fun a ha => ⟨ha, rfl⟩
 refine At.wpcS (i := 8) (d := 18) (.pointer (some ⟨b1, 0 + 7, none⟩)) (by kernel_rfl) rfl rfl rfl (fun Lx => ?_) ?_
 ·skip
  refine At.fieldAddr rfl fo72_2 rfl ?_
  refine At.ops0 ?_
  exact fun a ha => ⟨ha, rfl⟩
 refine At.wpcS (i := 9) (d := 19) (.agg s.res.cs) (by kernel_rfl) rfl rfl rfl (fun Lx => ?_) ?_
 ·skip
  refine At.load rfl (Ld.ownPart ag31 (sz31.trans (congrArg some ((((hx).op hs)).resOk).size.symm)) hb1 (((hx).op hs)).resCs) rfl ?_
  refine At.ops0 ?_
  exact fun a ha => ⟨ha, rfl⟩
 refine At.wpcE [7] (by kernel_rfl) (by kernel_rfl) (.cons [0, 1, 2, 3, 4, 8, 9] rfl (by kernel_rfl) ?_ .nil)
 refine At.call en23 rfl rfl (typ_any s.arg _ (((hx).op hs)).argOk (hra)) (fun e w3 hR' => ?_)
 obtain ⟨rfl, hbl1⟩ := hR'
 refine ⟨_, rfl, ?_⟩
 replace hb0 := Below.old hbl1 hb0
 replace hp1 := Below.old hbl1 hp1
 replace hp2 := Below.old hbl1 hp2
 replace hb1 := Below.old hbl1 hb1
 replace hO := hO.below hbl1
 replace hR := hR.callF hbl1
 replace hB := Fr.below hR hB0 hB0.size hSge
 refine At.ops0 ?_
 refine At.wpcN (.cons rfl rfl rfl rfl (fun Lx => ?_) (.cons rfl rfl rfl rfl (fun Lx => ?_) (.cons rfl rfl rfl rfl (fun Lx => ?_) (.cons rfl rfl rfl rfl (fun Lx => ?_) (.cons rfl rfl rfl rfl (fun Lx => ?_) (.cons rfl rfl rfl rfl (fun Lx => ?_) (.cons rfl rfl rfl rfl (fun Lx => ?_) .nil))))))) ?_
 ·skip
  refine At.load rfl (Ld.ownCell ag64 hp2 rfl) rfl ?_
  refine At.ops0 ?_
  exact fun a ha => ⟨ha, rfl⟩
 ·skip
  refine At.nilCheck rfl rfl ?_
  refine At.ops0 ?_
  exact fun a ha => ⟨ha, rfl⟩
 ·skip
  refine At.fieldAddr rfl fo68_0 rfl ?_
  refine At.ops0 ?_
  exact fun a ha => ⟨ha, rfl⟩
 ·skip
  refine At.fieldAddr rfl fo72_0 rfl ?_
  refine At.ops0 ?_
  exact fun a ha => ⟨ha, rfl⟩
 ·skip
  refine At.load rfl (Ld.ownCell ag9 hb1 (((hx).op hs)).c0) rfl ?_
  refine At.ops0 ?_
  exact fun a ha => ⟨ha, rfl⟩
 ·skip
  refine At.fieldAddr rfl fo72_2 rfl ?_
  refine At.ops0 ?_
  exact fun a ha => ⟨ha, rfl⟩
 ·skip
  refine At.load rfl (Ld.ownPart ag31 (sz31.trans (congrArg some ((((hx).op hs)).resOk).size.symm)) hb1 (((hx).op hs)).resCs) rfl ?_
  refine At.ops0 ?_
  exact fun a ha => ⟨ha, rfl⟩
 refine At.wpcE [10] (by kernel_rfl) (by kernel_rfl) (.cons [0, 1, 2, 3, 4] rfl (by kernel_rfl) ?_ .nil)
 refine At.call en23 rfl rfl (typ_any s.res _ (((hx).op hs)).resOk (hrb)) (fun e w4 hR' => ?_)
 obtain ⟨rfl, hbl2⟩ := hR'
 refine ⟨_, rfl, ?_⟩
 replace hb0 := Below.old hbl2 hb0
 replace hp1 := Below.old hbl2 hp1
 replace hp2 := Below.old hbl2 hp2
 replace hb1 := Below.old hbl2 hb1
 replace hO := hO.below hbl2
 replace hR := hR.callF hbl2
 replace hB := Fr.below hR hB0 hB0.size hSge
 refine At.ops0 ?_
 refine At.wpcN (.cons rfl rfl rfl rfl (fun Lx => ?_) (.cons rfl rfl rfl rfl (fun Lx => ?_) (.cons rfl rfl rfl rfl (fun Lx => ?_) (.cons rfl rfl rfl rfl (fun Lx => ?_) (.cons rfl rfl rfl rfl (fun Lx => ?_) .nil))))) ?_
 ·skip
  refine At.load rfl (Ld.ownCell ag64 hp2 rfl) rfl ?_
  refine At.ops0 ?_
  exact fun a ha => ⟨ha, rfl⟩
 ·skip
  refine At.nilCheck rfl rfl ?_
  refine At.ops0 ?_
  exact fun a ha => ⟨ha, rfl⟩
 ·skip
  refine At.fieldAddr rfl fo68_0 rfl ?_
  refine At.ops0 ?_
  exact fun a ha => ⟨ha, rfl⟩
 ·skip
  refine At.fieldAddr rfl fo72_0 rfl ?_
  refine At.ops0 ?_
  exact fun a ha => ⟨ha, rfl⟩
 ·skip
  refine At.load rfl (Ld.ownCell ag9 hb1 (((hx).op hs)).c0) rfl ?_
  refine At.ops0 ?_
  exact fun a ha => ⟨ha, rfl⟩
 refine At.wpcE [11] (by kernel_rfl) (by kernel_rfl) (.cons [0, 1, 2] rfl (by kernel_rfl) ?_ .nil)
 refine At.buildSlice (xs := [.tmp 14, .const (.string (⟨#[58]⟩ : ByteArray)), .tmp 17, .const (.string (⟨#[45, 62]⟩ : ByteArray)), .tmp 20]) rfl rfl el27 sz9 ze9 (by intro v hv; simp only [List.mem_cons, List.not_mem_nil, or_false] at hv; rcases hv with rfl | rfl | rfl | rfl | rfl <;> first | rfl | simp [Value.cells, Value.cells]) rfl (by decide) rfl (fun b2 w5 F2 => ?_)
 have q_hO_b2 : some b2 ≠ Value.ownBlock v := Own.neFresh hO F2
 have n_b0_b2 : b0 ≠ b2 := Nat.ne_of_lt (F2.lt hb0)
 have n_p1_b2 : p1 ≠ b2 := Nat.ne_of_lt (F2.lt hp1)
 have n_p2_b2 : p2 ≠ b2 := Nat.ne_of_lt (F2.lt hp2)
 have n_b1_b2 : b1 ≠ b2 := Nat.ne_of_lt (F2.lt hb1)
 have gb2 := Nat.le_trans hR.size (Nat.le_of_eq F2.eq.symm)
 replace hb0 := F2.old hb0
 replace hp1 := F2.old hp1
 replace hp2 := F2.old hp2
 replace hb1 := F2.old hb1
 replace hO := hO.fresh F2
 have hb2 : w5.heap[b2]? = some (.cells #[.string s.nm, .string (⟨#[58]⟩ : ByteArray), .string (typW s.arg), .string (⟨#[45, 62]⟩ : ByteArray), .string (typW s.res)] 9) := F2.new
 replace hR := hR.freshF F2
 replace hB := Fr.below hR hB0 hB0.size hSge
 refine At.ops0 ?_
 refine At.wpcN (.cons rfl rfl rfl rfl (fun Lx => ?_) (.cons rfl rfl rfl rfl (fun Lx => ?_) (.cons rfl rfl rfl rfl (fun Lx => ?_) .nil))) ?_
 ·skip
  refine At.load rfl (Ld.ownCell ag64 hp2 rfl) rfl ?_
  refine At.ops0 ?_
  exact fun a ha => ⟨ha, rfl⟩
 ·skip
  refine At.nilCheck rfl rfl ?_
  refine At.ops0 ?_
  exact fun a ha => ⟨ha, rfl⟩
 ·skip
  refine At.fieldAddr rfl fo68_0 rfl ?_
  refine At.ops0 ?_
  exact fun a ha => ⟨ha, rfl⟩
 refine At.wpcE [12] (by kernel_rfl) (by kernel_rfl) (.cons [] rfl (by kernel_rfl) ?_ .nil)
 have hsz1 := hR.size
 refine At.call en20 rfl rfl (add_any b0 v ls (.slice (some ⟨b2, 0, none⟩) 5 5) ([s.nm, (⟨#[58]⟩ : ByteArray), (typW s.arg), (⟨#[45, 62]⟩ : ByteArray), (typW s.res)]) w0 _ hB hbg gO hb0 hO (StrsAt.own (ss := [s.nm, (⟨#[58]⟩ : ByteArray), (typW s.arg), (⟨#[45, 62]⟩ : ByteArray), (typW s.res)]) hb2 rfl (by decide) : StrsAt _ (.slice (some ⟨b2, 0, none⟩) 5 5) [s.nm, (⟨#[58]⟩ : ByteArray), (typW s.arg), (⟨#[45, 62]⟩ : ByteArray), (typW s.res)]) (by simp only [opW, List.length_append, List.length_cons, List.length_nil] at hl ⊢; omega)) (fun e w6 hR' => ?_)
 obtain ⟨va1, rfl, hb0', hO1, hF1, hMn1⟩ := hR'
 refine ⟨_, rfl, ?_⟩
 have nn_p1 : ¬ (p1 = b0 ∨ some p1 = Value.ownBlock v) := fun e => e.elim (Ne.symm n_b0_p1) (hO.neT hp1 rfl)
 replace hp1 := hF1.old _ _ nn_p1 hp1
 have nn_p2 : ¬ (p2 = b0 ∨ some p2 = Value.ownBlock v) := fun e => e.elim (Ne.symm n_b0_p2) (hO.neT hp2 rfl)
 replace hp2 := hF1.old _ _ nn_p2 hp2
 have nn_b1 : ¬ (b1 = b0 ∨ some b1 = Value.ownBlock v) := fun e => e.elim (Ne.symm n_b0_b1) (hO.neT hb1 rfl)
 replace hb1 := hF1.old _ _ nn_b1 hb1
 have nn_b2 : ¬ (b2 = b0 ∨ some b2 = Value.ownBlock v) := fun e => e.elim (Ne.symm n_b0_b2) q_hO_b2
 replace hb2 := hF1.old _ _ nn_b2 hb2
 replace hb0 := hb0'
 have ghO1 := hMn1.ge (Nat.le_trans hB0.size hR.size) gO
 replace hR := Fr.then hR hF1 (ws_sub hM)
 replace hM := Moved.then hM (Nat.le_trans (Nat.le_refl _) hsz1) hMn1
 replace hB := Fr.below hR hB0 hB0.size hSge
 refine At.ops0 ?_
 refine At.wpcN .nil ?_
 refine At.wpcZ ?_
 refine At.doneN (ResV.nil) ?_
 exact ⟨va1, rfl, hb0, hO1, hR, hM⟩
theorem coni_any (b0 : Nat) (v : Value) (ls : List ByteArray) (w0 : World) (d : Dat) (p1 p2 : Nat) (i : Nat) (c : Cn) (w : World) (hB0 : Below w0.heap.size w0 w) (hbg : w0.heap.size ≤ b0) (gO : ∀ g, v.ownBlock = some g → w0.heap.size ≤ g) (hb0 : w.heap[b0]? = some (.cells #[v] 68)) (hO : OwnS 9 w v ls) (hd : DatOk w0 d) (hp1 : w.heap[p1]? = some (.cells #[.pointer (some ⟨b0, 0, none⟩)] 64)) (hp2 : w.heap[p2]? = some (.cells d.cs 61)) (n_b0_p1 : b0 ≠ p1) (n_b0_p2 : b0 ≠ p2) (n_p1_p2 : p1 ≠ p2) (hc : d.cons[i]? = some c) (hr : ∀ t ∈ c.fields, t.k ≠ 4 → 1 ≤ t.k ∧ t.k ≤ 3) (hl : ls.length + (cnW' c).length ≤ 4398046511104) :
  Calls Tryz.prog 24 ([.int .i64 (i : Int), .pointer (some ⟨p1, 0, none⟩), .pointer (some ⟨p2, 0, none⟩)] : List Value).toArray w fun e w' => ∃ v', e = .returned (.tuple #[]) ∧ w'.heap[b0]? = some (.cells #[v'] 68) ∧ OwnS 9 w' v' (ls ++ cnW' c) ∧ Fr (fun k => k = b0 ∨ some k = v.ownBlock) w w' ∧ Moved w v v' := by
 have hSge := ws_ge hbg gO
 have hM := Moved.refl w v
 have hcf := ((hd.conOk c (List.mem_of_getElem? hc)).fieldsAt).lenL
 have hlc : (cnW' c).length = 1 + c.fields.length := by simp [cnW']; omega
 have hR := Fr.refl (fun k => k = b0 ∨ some k = v.ownBlock) w
 have hB := hB0
 refine At.enter (N := 36) Tryz.func24 rfl rfl (by simp) [(0, .int .i64 (i : Int)), (1, .pointer (some ⟨p1, 0, none⟩)), (2, .pointer (some ⟨p2, 0, none⟩))] (by simp) ?_
 refine At.seq ?_
 refine At.drawG (n := 11) mixed (by kernel_rfl) rfl (PanicOk.then PanicOk.body) ?_
 have hR := Fr.drewF hR
 have hB := Below.drewB hB
 have hb0 : _ := (show w.drew.heap[b0]? = _ from hb0)
 have hp1 : _ := (show w.drew.heap[p1]? = _ from hp1)
 have hp2 : _ := (show w.drew.heap[p2]? = _ from hp2)
 have hO := hO.drew
 refine At.wpcS (i := 0) (d := 6) (.pointer (some ⟨b0, 0, none⟩)) (by kernel_rfl) rfl rfl rfl (fun Lx => ?_) ?_
 ·skip
  refine At.load rfl (Ld.ownCell ag64 hp1 rfl) rfl ?_
  refine At.ops0 ?_
  exact fun a ha => ⟨ha, rfl⟩
 refine At.wpcS (i := 1) (d := 7) (.pointer (some ⟨b0, 0, none⟩)) (by kernel_rfl) rfl rfl rfl (fun Lx => ?_) ?_
 ·skip
  refine At.nilCheck rfl rfl ?_
  refine At.ops0 ?_
  exact fun a ha => ⟨ha, rfl⟩
 refine At.wpcS (i := 2) (d := 8) (.pointer (some ⟨b0, 0 + 0, none⟩)) (by kernel_rfl) rfl rfl rfl (fun Lx => ?_) ?_
 ·skip
  refine At.fieldAddr rfl fo68_0 rfl ?_
  refine At.ops0 ?_
  exact fun a ha => ⟨ha, rfl⟩
 refine At.wpcS (i := 3) (d := 9) (.pointer (some ⟨p2, 0 + 1, none⟩)) (by kernel_rfl) rfl rfl rfl (fun Lx => ?_) ?_
 ·skip
  refine At.fieldAddr rfl fo61_1 rfl ?_
  refine At.ops0 ?_
  exact fun a ha => ⟨ha, rfl⟩
 refine At.wpcS (i := 4) (d := 10) (d.cv) (by kernel_rfl) rfl rfl rfl (fun Lx => ?_) ?_
 ·skip
  refine At.load rfl (Ld.ownCell ag59 hp2 (hd).c1) rfl ?_
  refine At.ops0 ?_
  exact fun a ha => ⟨ha, rfl⟩
 refine At.wpcS (i := 5) (d := 11) (.int .i64 (i : Int)) (by kernel_rfl) rfl rfl rfl (fun Lx => ?_) ?_
 ·skip
  refine At.move rfl rfl ?_
  refine At.ops0 ?_
  exact fun a ha => ⟨ha, rfl⟩
 refine At.wpcS (i := 6) (d := 12) (.pointer (some ⟨vBlock d.cv, vOff d.cv + i * 2, none⟩)) (by kernel_rfl) rfl rfl rfl (fun Lx => ?_) ?_
 ·skip
  refine At.indexAddr (i := i) rfl rfl ((hd).consAt).okL (lt_of_some hc) el59 sz63 rfl ?_
  refine At.ops0 ?_
  exact fun a ha => ⟨ha, rfl⟩
 refine At.wpcS (i := 7) (d := 13) (.pointer (some ⟨vBlock d.cv, vOff d.cv + i * 2 + 0, none⟩)) (by kernel_rfl) rfl rfl rfl (fun Lx => ?_) ?_
 ·skip
  refine At.fieldAddr rfl fo63_0 rfl ?_
  refine At.ops0 ?_
  exact fun a ha => ⟨ha, rfl⟩
 refine At.wpcS (i := 8) (d := 14) (.string c.nm) (by kernel_rfl) rfl rfl rfl (fun Lx => ?_) ?_
 ·skip
  refine At.load rfl (Ld.cell ag9 (cell_keep ((((hd).consAt).row hc).get (((hd).con hc)).c0) hB)) rfl ?_
  refine At.ops0 ?_
  exact fun a ha => ⟨ha, rfl⟩
 refine At.wpcE [9] (by kernel_rfl) (by kernel_rfl) (.cons [0, 1, 2] rfl (by kernel_rfl) ?_ .nil)
 refine At.buildSlice (xs := [.tmp 14]) rfl rfl el27 sz9 ze9 (by intro v hv; simp only [List.mem_cons, List.not_mem_nil, or_false] at hv; rcases hv with rfl <;> first | rfl | simp [Value.cells, Value.cells]) rfl (by decide) rfl (fun b1 w1 F1 => ?_)
 have q_hO_b1 : some b1 ≠ Value.ownBlock v := Own.neFresh hO F1
 have n_b0_b1 : b0 ≠ b1 := Nat.ne_of_lt (F1.lt hb0)
 have n_p1_b1 : p1 ≠ b1 := Nat.ne_of_lt (F1.lt hp1)
 have n_p2_b1 : p2 ≠ b1 := Nat.ne_of_lt (F1.lt hp2)
 have gb1 := Nat.le_trans hR.size (Nat.le_of_eq F1.eq.symm)
 replace hb0 := F1.old hb0
 replace hp1 := F1.old hp1
 replace hp2 := F1.old hp2
 replace hO := hO.fresh F1
 have hb1 : w1.heap[b1]? = some (.cells #[.string c.nm] 9) := F1.new
 replace hR := hR.freshF F1
 replace hB := Fr.below hR hB0 hB0.size hSge
 refine At.ops0 ?_
 refine At.wpcN (.cons rfl rfl rfl rfl (fun Lx => ?_) (.cons rfl rfl rfl rfl (fun Lx => ?_) (.cons rfl rfl rfl rfl (fun Lx => ?_) .nil))) ?_
 ·skip
  refine At.load rfl (Ld.ownCell ag64 hp1 rfl) rfl ?_
  refine At.ops0 ?_
  exact fun a ha => ⟨ha, rfl⟩
 ·skip
  refine At.nilCheck rfl rfl ?_
  refine At.ops0 ?_
  exact fun a ha => ⟨ha, rfl⟩
 ·skip
  refine At.fieldAddr rfl fo68_0 rfl ?_
  refine At.ops0 ?_
  exact fun a ha => ⟨ha, rfl⟩
 refine At.wpcE [10] (by kernel_rfl) (by kernel_rfl) (.cons [] rfl (by kernel_rfl) ?_ .nil)
 have hsz1 := hR.size
 refine At.call en20 rfl rfl (add_any b0 v ls (.slice (some ⟨b1, 0, none⟩) 1 1) ([c.nm]) w0 _ hB hbg gO hb0 hO (StrsAt.own (ss := [c.nm]) hb1 rfl (by decide) : StrsAt _ (.slice (some ⟨b1, 0, none⟩) 1 1) [c.nm]) (by simp only [List.length_map, List.length_take, List.length_append, List.length_cons, List.length_nil] at hl ⊢; omega)) (fun e w2 hR' => ?_)
 obtain ⟨va1, rfl, hb0', hO1, hF1, hMn1⟩ := hR'
 refine ⟨_, rfl, ?_⟩
 have nn_p1 : ¬ (p1 = b0 ∨ some p1 = Value.ownBlock v) := fun e => e.elim (Ne.symm n_b0_p1) (hO.neT hp1 rfl)
 replace hp1 := hF1.old _ _ nn_p1 hp1
 have nn_p2 : ¬ (p2 = b0 ∨ some p2 = Value.ownBlock v) := fun e => e.elim (Ne.symm n_b0_p2) (hO.neT hp2 rfl)
 replace hp2 := hF1.old _ _ nn_p2 hp2
 have nn_b1 : ¬ (b1 = b0 ∨ some b1 = Value.ownBlock v) := fun e => e.elim (Ne.symm n_b0_b1) q_hO_b1
 replace hb1 := hF1.old _ _ nn_b1 hb1
 replace hb0 := hb0'
 have ghO1 := hMn1.ge (Nat.le_trans hB0.size hR.size) gO
 replace hR := Fr.then hR hF1 (ws_sub hM)
 replace hM := Moved.then hM (Nat.le_trans (Nat.le_refl _) hsz1) hMn1
 replace hB := Fr.below hR hB0 hB0.size hSge
 refine At.ops0 ?_
 refine At.wpcN .nil ?_
 refine At.wpcZ ?_
 refine At.thenN ?_
 refine At.seq ?_
 refine At.region ?_
 refine At.fieldAddr rfl fo61_1 rfl ?_
 refine At.load rfl (Ld.ownCell ag59 hp2 (hd).c1) rfl ?_
 refine At.move rfl rfl ?_
 refine At.indexAddr (i := i) rfl rfl ((hd).consAt).okL (lt_of_some hc) el59 sz63 rfl ?_
 refine At.fieldAddr rfl fo63_1 rfl ?_
 refine At.load rfl (Ld.cell ag26 (cell_keep ((((hd).consAt).row hc).get (((hd).con hc)).c1) hB)) rfl ?_
 refine At.lenSl rfl ((((hd).con hc)).fieldsAt).okL el26 rfl ?_
 refine At.move rfl rfl ?_
 refine At.ops0 ?_
 refine At.thenN ?_
 refine At.block ?_
 refine At.loop (Nat × Value) (fun (k, v1) => [(1, .pointer (some ⟨p1, 0, none⟩)), (22, c.fv), (23, .int .i64 (c.fields.length : Int)), (24, .int .i64 (k : Int))]) (fun (k, v1) w3 => Fr (fun k => k = b0 ∨ some k = v.ownBlock) w w3 ∧ w3.heap[b0]? = some (.cells #[v1] 68) ∧ w3.heap[p1]? = some (.cells #[.pointer (some ⟨b0, 0, none⟩)] 64) ∧ OwnS 9 w3 v1 ((ls ++ [c.nm]) ++ ((c.fields.take k).map typW)) ∧ (∀ g, v1.ownBlock = some g → w0.heap.size ≤ g) ∧ (k ≤ c.fields.length) ∧ (Moved w v v1)) (fun (k, v1) => c.fields.length - k) (0, va1) (Sub.cons rfl (Sub.cons rfl (Sub.cons rfl (Sub.cons rfl Sub.nil)))) ⟨hR, hb0, hp1, (by rw [List.take_zero, List.map_nil, List.append_nil]; exact hO1), (ghO1), (Nat.zero_le _), (hM)⟩ (fun gh w3 hI => ?_)
 obtain ⟨k, v1⟩ := gh
 clear hR hB hb0 hp1 hp2 hb1 hO1
 obtain ⟨hR, hb0, hp1, hO, gO1, hkb, hM⟩ := hI
 have hB := Fr.below hR hB0 hB0.size hSge
 show At _ _ [(1, .pointer (some ⟨p1, 0, none⟩)), (22, c.fv), (23, .int .i64 (c.fields.length : Int)), (24, .int .i64 (k : Int))] _ _
 refine At.seq ?_
 refine At.region ?_
 refine At.lss rfl rfl rfl ?_
 refine At.ops0 ?_
 refine At.thenN ?_
 refine At.seq ?_
 refine At.cond (b := decide ((k : Int) < (c.fields.length : Int))) rfl (fun hc1 => ?_) (fun hc1 => ?_)
 ·skip
  have hc1' := of_decide_eq_true hc1
  refine At.skip ?_
  refine At.thenN ?_
  refine At.seq ?_
  refine At.block ?_
  refine At.seq ?_
  obtain ⟨u1, hu1⟩ := some_of_lt (l := c.fields) (i := k) (by omega)
  refine At.region ?_
  refine At.indexAddr (i := k) rfl rfl ((((hd).con hc)).fieldsAt).okL (lt_of_some hu1) el26 sz31 rfl ?_
  refine At.load rfl (Ld.row ag31 (sz31.trans (congrArg some (((((hd).con hc)).field hu1)).size.symm)) ((((((hd).con hc)).fieldsAt).row hu1).keep hB)) rfl ?_
  refine At.alloc ze31 rfl (fun b2 w4 F2 => ?_)
  have n_b0_b2 : b0 ≠ b2 := Nat.ne_of_lt (F2.lt hb0)
  have n_p1_b2 : p1 ≠ b2 := Nat.ne_of_lt (F2.lt hp1)
  have gb2 := Nat.le_trans hR.size (Nat.le_of_eq F2.eq.symm)
  replace hb0 := F2.old hb0
  replace hp1 := F2.old hp1
  replace hO := hO.fresh F2
  have hb2 : w4.heap[b2]? = some (.cells #[.int .i64 0, .string (⟨#[]⟩ : ByteArray), .int .i64 0, (.slice none 0 0), (.slice none 0 0), .int .i64 0] 31) := F2.new
  replace hR := hR.freshF F2
  replace hB := Fr.below hR hB0 hB0.size hSge
  refine At.storeAll rfl rfl hb2 (sz31.trans (congrArg some (((((hd).con hc)).field hu1)).size.symm)) (((((hd).con hc)).field hu1)).size.symm (((((hd).con hc)).field hu1)).one (fun w5 S1 => ?_)
  replace hb0 := S1.other hb0 n_b0_b2
  replace hp1 := S1.other hp1 n_p1_b2
  replace hO := hO.set S1 (hO.neT hb2 rfl)
  replace hb2 : w5.heap[b2]? = some (.cells u1.cs 31) := S1.new
  replace hR := hR.setF S1 (.inr gb2)
  replace hB := Fr.below hR hB0 hB0.size hSge
  refine At.ops0 ?_
  refine At.thenN ?_
  refine At.drawG (n := 7) mixed (by kernel_rfl) rfl (PanicOk.block (PanicOk.then (PanicOk.then (PanicOk.block PanicOk.body)))) ?_
  have hR := Fr.drewF hR
  have hB := Below.drewB hB
  have hb0 : _ := (show w5.drew.heap[b0]? = _ from hb0)
  have hp1 : _ := (show w5.drew.heap[p1]? = _ from hp1)
  have hb2 : _ := (show w5.drew.heap[b2]? = _ from hb2)
  have hO := hO.drew
  refine At.wpcS (i := 0) (d := 28) (.pointer (some ⟨b0, 0, none⟩)) (by kernel_rfl) rfl rfl rfl (fun Lx => ?_) ?_
  ·skip
   refine At.load rfl (Ld.ownCell ag64 hp1 rfl) rfl ?_
   refine At.ops0 ?_
   exact fun a ha => ⟨ha, rfl⟩
  refine At.wpcS (i := 1) (d := 29) (.pointer (some ⟨b0, 0, none⟩)) (by kernel_rfl) rfl rfl rfl (fun Lx => ?_) ?_
  ·skip
   refine At.nilCheck rfl rfl ?_
   refine At.ops0 ?_
   exact fun a ha => ⟨ha, rfl⟩
  refine At.wpcS (i := 2) (d := 30) (.pointer (some ⟨b0, 0 + 0, none⟩)) (by kernel_rfl) rfl rfl rfl (fun Lx => ?_) ?_
  ·skip
   refine At.fieldAddr rfl fo68_0 rfl ?_
   refine At.ops0 ?_
   exact fun a ha => ⟨ha, rfl⟩
  refine At.wpcS (i := 3) (d := 31) (.agg u1.cs) (by kernel_rfl) rfl rfl rfl (fun Lx => ?_) ?_
  ·skip
   refine At.load rfl (Ld.own ag31 (sz31.trans (congrArg some (((((hd).con hc)).field hu1)).size.symm)) hb2) rfl ?_
   refine At.ops0 ?_
   exact fun a ha => ⟨ha, rfl⟩
  refine At.wpcE [4] (by kernel_rfl) (by kernel_rfl) (.cons [0, 1, 2] rfl (by kernel_rfl) ?_ .nil)
  refine At.call en23 rfl rfl (typ_any u1 _ ((((hd).con hc)).field hu1) ((hr u1 (List.mem_of_getElem? hu1)))) (fun e w6 hR' => ?_)
  obtain ⟨rfl, hbl1⟩ := hR'
  refine ⟨_, rfl, ?_⟩
  replace hb0 := Below.old hbl1 hb0
  replace hp1 := Below.old hbl1 hp1
  replace hb2 := Below.old hbl1 hb2
  replace hO := hO.below hbl1
  replace hR := hR.callF hbl1
  replace hB := Fr.below hR hB0 hB0.size hSge
  refine At.ops0 ?_
  refine At.wpcN (.cons rfl rfl rfl rfl (fun Lx => ?_) (.cons rfl rfl rfl rfl (fun Lx => ?_) (.cons rfl rfl rfl rfl (fun Lx => ?_) .nil))) ?_
  ·skip
   refine At.load rfl (Ld.ownCell ag64 hp1 rfl) rfl ?_
   refine At.ops0 ?_
   exact fun a ha => ⟨ha, rfl⟩
  ·skip
   refine At.nilCheck rfl rfl ?_
   refine At.ops0 ?_
   exact fun a ha => ⟨ha, rfl⟩
  ·skip
   refine At.fieldAddr rfl fo68_0 rfl ?_
   refine At.ops0 ?_
   exact fun a ha => ⟨ha, rfl⟩
  refine At.wpcE [5] (by kernel_rfl) (by kernel_rfl) (.cons [0, 1, 2] rfl (by kernel_rfl) ?_ .nil)
  refine At.buildSlice (xs := [.tmp 32]) rfl rfl el27 sz9 ze9 (by intro v hv; simp only [List.mem_cons, List.not_mem_nil, or_false] at hv; rcases hv with rfl <;> first | rfl | simp [Value.cells, Value.cells]) rfl (by decide) rfl (fun b3 w7 F3 => ?_)
  have q_hO_b3 : some b3 ≠ Value.ownBlock v1 := Own.neFresh hO F3
  have n_b0_b3 : b0 ≠ b3 := Nat.ne_of_lt (F3.lt hb0)
  have n_p1_b3 : p1 ≠ b3 := Nat.ne_of_lt (F3.lt hp1)
  have n_b2_b3 : b2 ≠ b3 := Nat.ne_of_lt (F3.lt hb2)
  have gb3 := Nat.le_trans hR.size (Nat.le_of_eq F3.eq.symm)
  replace hb0 := F3.old hb0
  replace hp1 := F3.old hp1
  replace hb2 := F3.old hb2
  replace hO := hO.fresh F3
  have hb3 : w7.heap[b3]? = some (.cells #[.string (typW u1)] 9) := F3.new
  replace hR := hR.freshF F3
  replace hB := Fr.below hR hB0 hB0.size hSge
  refine At.ops0 ?_
  refine At.wpcN (.cons rfl rfl rfl rfl (fun Lx => ?_) (.cons rfl rfl rfl rfl (fun Lx => ?_) (.cons rfl rfl rfl rfl (fun Lx => ?_) .nil))) ?_
  ·skip
   refine At.load rfl (Ld.ownCell ag64 hp1 rfl) rfl ?_
   refine At.ops0 ?_
   exact fun a ha => ⟨ha, rfl⟩
  ·skip
   refine At.nilCheck rfl rfl ?_
   refine At.ops0 ?_
   exact fun a ha => ⟨ha, rfl⟩
  ·skip
   refine At.fieldAddr rfl fo68_0 rfl ?_
   refine At.ops0 ?_
   exact fun a ha => ⟨ha, rfl⟩
  refine At.wpcE [6] (by kernel_rfl) (by kernel_rfl) (.cons [] rfl (by kernel_rfl) ?_ .nil)
  have hsz2 := hR.size
  refine At.call en20 rfl rfl (add_any b0 v1 ((ls ++ [c.nm]) ++ ((c.fields.take k).map typW)) (.slice (some ⟨b3, 0, none⟩) 1 1) ([(typW u1)]) w0 _ hB hbg gO1 hb0 hO (StrsAt.own (ss := [(typW u1)]) hb3 rfl (by decide) : StrsAt _ (.slice (some ⟨b3, 0, none⟩) 1 1) [(typW u1)]) (by simp only [List.length_map, List.length_take, List.length_append, List.length_cons, List.length_nil] at hl ⊢; omega)) (fun e w8 hR' => ?_)
  obtain ⟨va2, rfl, hb0', hO2, hF2, hMn2⟩ := hR'
  refine ⟨_, rfl, ?_⟩
  have nn_p1 : ¬ (p1 = b0 ∨ some p1 = Value.ownBlock v1) := fun e => e.elim (Ne.symm n_b0_p1) (hO.neT hp1 rfl)
  replace hp1 := hF2.old _ _ nn_p1 hp1
  have nn_b2 : ¬ (b2 = b0 ∨ some b2 = Value.ownBlock v1) := fun e => e.elim (Ne.symm n_b0_b2) (hO.neT hb2 rfl)
  replace hb2 := hF2.old _ _ nn_b2 hb2
  have nn_b3 : ¬ (b3 = b0 ∨ some b3 = Value.ownBlock v1) := fun e => e.elim (Ne.symm n_b0_b3) q_hO_b3
  replace hb3 := hF2.old _ _ nn_b3 hb3
  replace hb0 := hb0'
  have ghO2 := hMn2.ge (Nat.le_trans hB0.size hR.size) gO1
  replace hR := Fr.then hR hF2 (ws_sub hM)
  replace hM := Moved.then hM (Nat.le_trans (Nat.le_refl _) hsz2) hMn2
  replace hB := Fr.below hR hB0 hB0.size hSge
  refine At.ops0 ?_
  refine At.wpcN .nil ?_
  refine At.wpcZ ?_
  refine At.inN ?_
  refine At.thenN ?_
  refine At.region ?_
  refine At.addI rfl rfl rfl (by omega) ?_
  refine At.move rfl rfl ?_
  refine At.ops0 ?_
  refine At.thenN ?_
  exact fun act_ hact_ => ⟨((k + 1), va2), hact_.sub (Sub.cons rfl (Sub.cons rfl (Sub.cons rfl (Sub.cons rfl Sub.nil)))), ⟨hR, hb0, hp1, (fields_next hu1 ▸ hO2), (ghO2), (by omega), (hM)⟩, by first | omega | (dsimp only; omega)⟩
 ·skip
  have hc1' := of_decide_eq_false hc1
  refine At.exit ?_
  refine At.thenE ?_
  refine At.thenE ?_
  refine At.inE ?_
  refine At.doneN (ResV.nil) ?_
  have hkn : k = c.fields.length := by omega
  subst hkn
  rw [List.take_length] at hO
  exact ⟨v1, rfl, hb0, (show (ls ++ [c.nm]) ++ c.fields.map typW = ls ++ cnW' c by simp [cnW']) ▸ hO, hR, hM⟩
theorem term_any (t : Tm) (m : Int) (w : World) (ht : TmOk w t) (hz : szT t) (hm : w.cell? ⟨0, 0, none⟩ = some (.int .i64 m)) (htab : Tab w) (hfew : rightB t = true → FewW (exprW t)) :
  Calls Tryz.prog 13 ([.agg t.cs] : List Value).toArray w fun e w' => e = .returned (.tuple #[.string (bs (termL t)), .int .i64 (if writtenB t then 0 else 1)]) ∧ Below w.heap.size w w' := by
 have hB := Below.refl w.heap.size w
 refine At.enter (N := 19) Tryz.func13 rfl rfl (by simp) [(0, .agg t.cs)] (by simp) ?_
 refine At.seq ?_
 refine At.region ?_
 refine At.box rfl rfl (fun b1 w1 F1 => ?_)
 have gb1 := F1.ge hB
 have hb1 : w1.heap[b1]? = some (.cells t.cs 33) := F1.new
 replace hB := F1.below' hB
 refine At.assign rfl rfl ?_
 refine At.assign rfl rfl ?_
 refine At.ops0 ?_
 refine At.thenN ?_
 refine At.seq ?_
 refine At.seq ?_
 refine At.region ?_
 refine At.load rfl (Ld.own ag33 (sz33.trans (congrArg some (ht).size.symm)) hb1) rfl ?_
 refine At.call en29 rfl rfl (written_any t m _ ((ht).keep hB) hz (cell_keep hm hB)) (fun e w2 hR => ?_)
 obtain ⟨rfl, hbl1⟩ := hR
 refine ⟨_, rfl, ?_⟩
 replace hb1 := Below.old hbl1 hb1
 replace hB := Below.andThen hB hbl1
 refine At.not rfl rfl ?_
 refine At.ops0 ?_
 refine At.thenN ?_
 refine At.cond (b := (!(writtenB t))) rfl (fun hc1 => ?_) (fun hc1 => ?_)
 ·skip
  refine At.seq ?_
  refine At.region ?_
  refine At.assign rfl rfl ?_
  refine At.assign rfl rfl ?_
  refine At.ops0 ?_
  refine At.thenN ?_
  refine At.retc ?_
  refine At.thenR ?_
  refine At.doneR (ResV.tmp rfl (ResV.tmp rfl ResV.nil)) ?_
  have hwr : writtenB t = false := by simpa using hc1
  exact ⟨by simp only [termL, hwr]; rfl, hB⟩
 ·skip
  refine At.skip ?_
  refine At.thenN ?_
  refine At.seq ?_
  refine At.region ?_
  refine At.build (C := #[(.slice none 0 0)]) sd68 ze68 rfl (Bld.nil _) rfl ?_
  refine At.box rfl rfl (fun b2 w3 F2 => ?_)
  have n_b1_b2 : b1 ≠ b2 := Nat.ne_of_lt (F2.lt hb1)
  have gb2 := F2.ge hB
  replace hb1 := F2.old hb1
  have hb2 : w3.heap[b2]? = some (.cells #[(.slice none 0 0)] 68) := F2.new
  replace hB := F2.below' hB
  refine At.assign rfl rfl ?_
  refine At.ops0 ?_
  refine At.thenN ?_
  refine At.seq ?_
  have hwr : writtenB t = true := by simpa using hc1
  have hri := written_right hwr
  obtain ⟨hf1, hf2⟩ := hfew hri
  refine At.region ?_
  refine At.move rfl rfl ?_
  refine At.load rfl (Ld.own ag33 (sz33.trans (congrArg some (ht).size.symm)) hb1) rfl ?_
  refine At.call en25 rfl rfl ((expr_all htab ht hz hri) (.slice none 0 0) ([] : List ByteArray) _ hB gb2 (fun g h => by cases h) hb2 (OwnS.nil 9 _) (by simp only [List.length_nil]; omega)) (fun e w4 hR' => ?_)
  obtain ⟨va1, rfl, hb2', hO1, hF1, hMn1⟩ := hR'
  refine ⟨_, rfl, ?_⟩
  have nn_b1 : ¬ (b1 = b2 ∨ some b1 = Value.ownBlock (.slice none 0 0)) := fun e => e.elim n_b1_b2 (by simp [Value.ownBlock])
  replace hb1 := hF1.old _ _ nn_b1 hb1
  replace hb2 := hb2'
  have ghO1 := hMn1.ge hB.size (fun g h => by cases h)
  replace hB := hF1.below hB hB.size (ws_ge gb2 (fun g h => by cases h))
  replace hO1 : OwnS 9 w4 va1 (exprW t) := hO1
  refine At.ops0 ?_
  refine At.thenN ?_
  refine At.seq ?_
  refine At.region ?_
  refine At.move rfl rfl ?_
  refine At.nilCheck rfl rfl ?_
  refine At.fieldAddr rfl fo68_0 rfl ?_
  refine At.fieldAddr rfl fo66_0 rfl ?_
  refine At.load rfl (Ld.ownCell ag27 hb2 rfl) rfl ?_
  refine At.call en26 rfl rfl (joinB_any va1 (exprW t) _ hO1.strs (hf1) (hf2)) (fun e w5 hR' => ?_)
  obtain ⟨rfl, hbl2⟩ := hR'
  refine ⟨_, rfl, ?_⟩
  replace hb1 := Below.old hbl2 hb1
  replace hb2 := Below.old hbl2 hb2
  replace hO1 := hO1.below hbl2
  replace hB := Below.andThen hB hbl2
  refine At.assign rfl rfl ?_
  refine At.assign rfl rfl ?_
  refine At.ops0 ?_
  refine At.thenN ?_
  refine At.retc ?_
  refine At.doneR (ResV.tmp rfl (ResV.tmp rfl ResV.nil)) ?_
  exact ⟨by simp only [termL, hwr]; rfl, hB⟩
theorem print_any (p : Pr) (m : Int) (w : World) (hp : PrOk w p) (hz : SzP p) (hm : w.cell? ⟨0, 0, none⟩ = some (.int .i64 m)) (htab : Tab w) (hfew : RightB p = true → FewW (printW p)) :
  Calls Tryz.prog 9 ([.agg p.cs] : List Value).toArray w fun e w' => e = .returned (.tuple #[.string (bs (printL p)), .int .i64 (if RightB p then 0 else 1)]) ∧ Below w.heap.size w w' := by
 have hlp := hp.effsAt.lenL; have hlq := hp.datsAt.lenL
 have hB := Below.refl w.heap.size w
 refine At.enter (N := 76) Tryz.func9 rfl rfl (by simp) [(0, .agg p.cs)] (by simp) ?_
 refine At.seq ?_
 refine At.region ?_
 refine At.box rfl rfl (fun b1 w1 F1 => ?_)
 have gb1 := F1.ge hB
 have hb1 : w1.heap[b1]? = some (.cells p.cs 35) := F1.new
 replace hB := F1.below' hB
 refine At.assign rfl rfl ?_
 refine At.assign rfl rfl ?_
 refine At.ops0 ?_
 refine At.thenN ?_
 refine At.seq ?_
 refine At.seq ?_
 refine At.region ?_
 refine At.load rfl (Ld.own ag35 (sz35.trans (congrArg some (hp).size.symm)) hb1) rfl ?_
 refine At.call en10 rfl rfl (Right_any p m _ ((hp).keep hB) hz (cell_keep hm hB)) (fun e w2 hR => ?_)
 obtain ⟨rfl, hbl1⟩ := hR
 refine ⟨_, rfl, ?_⟩
 replace hb1 := Below.old hbl1 hb1
 replace hB := Below.andThen hB hbl1
 refine At.not rfl rfl ?_
 refine At.ops0 ?_
 refine At.thenN ?_
 refine At.cond (b := (!(RightB p))) rfl (fun hc1 => ?_) (fun hc1 => ?_)
 ·skip
  refine At.seq ?_
  refine At.region ?_
  refine At.assign rfl rfl ?_
  refine At.assign rfl rfl ?_
  refine At.ops0 ?_
  refine At.thenN ?_
  refine At.retc ?_
  refine At.thenR ?_
  refine At.doneR (ResV.tmp rfl (ResV.tmp rfl ResV.nil)) ?_
  have hR0 : RightB p = false := by simpa using hc1
  exact ⟨by simp only [printL, hR0]; rfl, hB⟩
 ·skip
  refine At.skip ?_
  refine At.thenN ?_
  refine At.seq ?_
  have hR0 : RightB p = true := by simpa using hc1
  have hri := written_right (right_body hR0)
  obtain ⟨hf1, hf2⟩ := hfew hR0
  have hlw : (printW p).length = (p.effs.flatMap effW').length + (p.dats.flatMap datW').length + (exprW p.body).length := by simp [printW, declW]; omega
  refine At.region ?_
  refine At.build (C := #[(.slice none 0 0)]) sd68 ze68 rfl (Bld.nil _) rfl ?_
  refine At.box rfl rfl (fun b2 w3 F2 => ?_)
  have n_b1_b2 : b1 ≠ b2 := Nat.ne_of_lt (F2.lt hb1)
  have gb2 := F2.ge hB
  replace hb1 := F2.old hb1
  have hb2 : w3.heap[b2]? = some (.cells #[(.slice none 0 0)] 68) := F2.new
  replace hB := F2.below' hB
  refine At.alloc ze64 rfl (fun b3 w4 F3 => ?_)
  have n_b1_b3 : b1 ≠ b3 := Nat.ne_of_lt (F3.lt hb1)
  have n_b2_b3 : b2 ≠ b3 := Nat.ne_of_lt (F3.lt hb2)
  have gb3 := F3.ge hB
  replace hb1 := F3.old hb1
  replace hb2 := F3.old hb2
  have hb3 : w4.heap[b3]? = some (.cells #[.pointer none] 64) := F3.new
  replace hB := F3.below' hB
  refine At.store1 rfl rfl hb3 sz64 (by simp) rfl (fun w5 S1 => ?_)
  replace hb1 := S1.other hb1 n_b1_b3
  replace hb2 := S1.other hb2 n_b2_b3
  replace hb3 : w5.heap[b3]? = some (.cells #[.pointer (some ⟨b2, 0, none⟩)] 64) := S1.new
  replace hB := S1.below' hB gb3
  refine At.ops0 ?_
  refine At.thenN ?_
  refine At.seq ?_
  refine At.seq ?_
  refine At.region ?_
  refine At.fieldAddr rfl fo35_0 rfl ?_
  refine At.load rfl (Ld.ownCell ag22 hb1 (hp).c0) rfl ?_
  refine At.lenSl rfl ((hp).effsAt).okL el22 rfl ?_
  refine At.move rfl rfl ?_
  refine At.ops0 ?_
  refine At.thenN ?_
  refine At.block ?_
  refine At.loop (Nat × Value) (fun (k, v1) => [(1, .pointer (some ⟨b1, 0, none⟩)), (4, .pointer (some ⟨b3, 0, none⟩)), (15, p.ev), (16, .int .i64 (p.effs.length : Int)), (17, .int .i64 (k : Int))]) (fun (k, v1) w6 => Below w.heap.size w w6 ∧ w6.heap[b1]? = some (.cells p.cs 35) ∧ w6.heap[b2]? = some (.cells #[v1] 68) ∧ w6.heap[b3]? = some (.cells #[.pointer (some ⟨b2, 0, none⟩)] 64) ∧ OwnS 9 w6 v1 ((p.effs.take k).flatMap effW') ∧ (∀ g, v1.ownBlock = some g → w.heap.size ≤ g) ∧ (k ≤ p.effs.length)) (fun (k, v1) => p.effs.length - k) (0, .slice none 0 0) (Sub.cons rfl (Sub.cons rfl (Sub.cons rfl (Sub.cons rfl (Sub.cons rfl Sub.nil))))) ⟨hB, hb1, hb2, hb3, (OwnS.nil 9 _), (fun g h => by cases h), (Nat.zero_le _)⟩ (fun gh w6 hI => ?_)
  obtain ⟨k, v1⟩ := gh
  clear hB hb1 hb2 hb3
  obtain ⟨hB, hb1, hb2, hb3, hO, gO1, hk⟩ := hI
  show At _ _ [(1, .pointer (some ⟨b1, 0, none⟩)), (4, .pointer (some ⟨b3, 0, none⟩)), (15, p.ev), (16, .int .i64 (p.effs.length : Int)), (17, .int .i64 (k : Int))] _ _
  have hlp := hp.effsAt.lenL; have hlq := hp.datsAt.lenL
  refine At.seq ?_
  refine At.region ?_
  refine At.lss rfl rfl rfl ?_
  refine At.ops0 ?_
  refine At.thenN ?_
  refine At.seq ?_
  refine At.cond (b := decide ((k : Int) < (p.effs.length : Int))) rfl (fun hc2 => ?_) (fun hc2 => ?_)
  ·skip
   have hc2' := of_decide_eq_true hc2
   refine At.skip ?_
   refine At.thenN ?_
   refine At.seq ?_
   refine At.block ?_
   refine At.seq ?_
   obtain ⟨x1, hx1⟩ := some_of_lt (l := p.effs) (i := k) (by omega)
   have hfp := flat_part effW' hx1; have hle : (effW' x1).length = (3 + (btN (⟨#[59]⟩ : ByteArray) (fun i => (x1.ops.map opW).getD i []) x1.ops.length).length) + 1 := by simp [effW']; omega
   have hol := (hp.effOk x1 (List.mem_of_getElem? hx1)).opsAt.lenL
   refine At.region ?_
   refine At.indexAddr (i := k) rfl rfl ((hp).effsAt).okL (lt_of_some hx1) el22 sz58 rfl ?_
   refine At.load rfl (Ld.row ag58 (sz58.trans (congrArg some (((hp).eff hx1)).size.symm)) ((((hp).effsAt).row hx1).keep hB)) rfl ?_
   refine At.alloc ze58 rfl (fun b4 w7 F4 => ?_)
   have n_b1_b4 : b1 ≠ b4 := Nat.ne_of_lt (F4.lt hb1)
   have n_b2_b4 : b2 ≠ b4 := Nat.ne_of_lt (F4.lt hb2)
   have n_b3_b4 : b3 ≠ b4 := Nat.ne_of_lt (F4.lt hb3)
   have gb4 := F4.ge hB
   replace hb1 := F4.old hb1
   replace hb2 := F4.old hb2
   replace hb3 := F4.old hb3
   replace hO := hO.fresh F4
   have hb4 : w7.heap[b4]? = some (.cells #[.string (⟨#[]⟩ : ByteArray), (.slice none 0 0)] 58) := F4.new
   replace hB := F4.below' hB
   refine At.storeAll rfl rfl hb4 (sz58.trans (congrArg some (((hp).eff hx1)).size.symm)) (((hp).eff hx1)).size.symm (((hp).eff hx1)).one (fun w8 S2 => ?_)
   replace hb1 := S2.other hb1 n_b1_b4
   replace hb2 := S2.other hb2 n_b2_b4
   replace hb3 := S2.other hb3 n_b3_b4
   replace hO := hO.set S2 (hO.neT hb4 rfl)
   replace hb4 : w8.heap[b4]? = some (.cells x1.cs 58) := S2.new
   replace hB := S2.below' hB gb4
   refine At.ops0 ?_
   refine At.thenN ?_
   refine At.seq ?_
   refine At.drawG (n := 7) mixed (by kernel_rfl) rfl (PanicOk.then (PanicOk.block (PanicOk.then (PanicOk.then (PanicOk.block (PanicOk.then PanicOk.body)))))) ?_
   have hB := Below.drewB hB
   have hb1 : _ := (show w8.drew.heap[b1]? = _ from hb1)
   have hb2 : _ := (show w8.drew.heap[b2]? = _ from hb2)
   have hb3 : _ := (show w8.drew.heap[b3]? = _ from hb3)
   have hb4 : _ := (show w8.drew.heap[b4]? = _ from hb4)
   have hO := hO.drew
   refine At.wpcS (i := 0) (d := 21) (.pointer (some ⟨b2, 0, none⟩)) (by kernel_rfl) rfl rfl rfl (fun Lx => ?_) ?_
   ·skip
    refine At.load rfl (Ld.ownCell ag64 hb3 rfl) rfl ?_
    refine At.ops0 ?_
    exact fun a ha => ⟨ha, rfl⟩
   refine At.wpcS (i := 1) (d := 22) (.pointer (some ⟨b2, 0, none⟩)) (by kernel_rfl) rfl rfl rfl (fun Lx => ?_) ?_
   ·skip
    refine At.nilCheck rfl rfl ?_
    refine At.ops0 ?_
    exact fun a ha => ⟨ha, rfl⟩
   refine At.wpcS (i := 2) (d := 23) (.pointer (some ⟨b2, 0 + 0, none⟩)) (by kernel_rfl) rfl rfl rfl (fun Lx => ?_) ?_
   ·skip
    refine At.fieldAddr rfl fo68_0 rfl ?_
    refine At.ops0 ?_
    exact fun a ha => ⟨ha, rfl⟩
   refine At.wpcS (i := 3) (d := 24) (.pointer (some ⟨b4, 0 + 0, none⟩)) (by kernel_rfl) rfl rfl rfl (fun Lx => ?_) ?_
   ·skip
    refine At.fieldAddr rfl fo58_0 rfl ?_
    refine At.ops0 ?_
    exact fun a ha => ⟨ha, rfl⟩
   refine At.wpcS (i := 4) (d := 25) (.string x1.nm) (by kernel_rfl) rfl rfl rfl (fun Lx => ?_) ?_
   ·skip
    refine At.load rfl (Ld.ownCell ag9 hb4 (((hp).eff hx1)).c0) rfl ?_
    refine At.ops0 ?_
    exact fun a ha => ⟨ha, rfl⟩
   refine At.wpcE [5] (by kernel_rfl) (by kernel_rfl) (.cons [0, 1, 2] rfl (by kernel_rfl) ?_ .nil)
   refine At.buildSlice (xs := [.const (.string (⟨#[101, 102, 102, 101, 99, 116]⟩ : ByteArray)), .tmp 25, .const (.string (⟨#[123]⟩ : ByteArray))]) rfl rfl el27 sz9 ze9 (by intro v hv; simp only [List.mem_cons, List.not_mem_nil, or_false] at hv; rcases hv with rfl | rfl | rfl <;> first | rfl | simp [Value.cells, Value.cells]) rfl (by decide) rfl (fun b5 w9 F5 => ?_)
   have q_hO_b5 : some b5 ≠ Value.ownBlock v1 := Own.neFresh hO F5
   have n_b1_b5 : b1 ≠ b5 := Nat.ne_of_lt (F5.lt hb1)
   have n_b2_b5 : b2 ≠ b5 := Nat.ne_of_lt (F5.lt hb2)
   have n_b3_b5 : b3 ≠ b5 := Nat.ne_of_lt (F5.lt hb3)
   have n_b4_b5 : b4 ≠ b5 := Nat.ne_of_lt (F5.lt hb4)
   have gb5 := F5.ge hB
   replace hb1 := F5.old hb1
   replace hb2 := F5.old hb2
   replace hb3 := F5.old hb3
   replace hb4 := F5.old hb4
   replace hO := hO.fresh F5
   have hb5 : w9.heap[b5]? = some (.cells #[.string (⟨#[101, 102, 102, 101, 99, 116]⟩ : ByteArray), .string x1.nm, .string (⟨#[123]⟩ : ByteArray)] 9) := F5.new
   replace hB := F5.below' hB
   refine At.ops0 ?_
   refine At.wpcN (.cons rfl rfl rfl rfl (fun Lx => ?_) (.cons rfl rfl rfl rfl (fun Lx => ?_) (.cons rfl rfl rfl rfl (fun Lx => ?_) .nil))) ?_
   ·skip
    refine At.load rfl (Ld.ownCell ag64 hb3 rfl) rfl ?_
    refine At.ops0 ?_
    exact fun a ha => ⟨ha, rfl⟩
   ·skip
    refine At.nilCheck rfl rfl ?_
    refine At.ops0 ?_
    exact fun a ha => ⟨ha, rfl⟩
   ·skip
    refine At.fieldAddr rfl fo68_0 rfl ?_
    refine At.ops0 ?_
    exact fun a ha => ⟨ha, rfl⟩
   refine At.wpcE [6] (by kernel_rfl) (by kernel_rfl) (.cons [] rfl (by kernel_rfl) ?_ .nil)
   refine At.call en20 rfl rfl (add_any b2 v1 ((p.effs.take k).flatMap effW') (.slice (some ⟨b5, 0, none⟩) 3 3) ([(⟨#[101, 102, 102, 101, 99, 116]⟩ : ByteArray), x1.nm, (⟨#[123]⟩ : ByteArray)]) w _ hB gb2 gO1 hb2 hO (StrsAt.own (ss := [(⟨#[101, 102, 102, 101, 99, 116]⟩ : ByteArray), x1.nm, (⟨#[123]⟩ : ByteArray)]) hb5 rfl (by decide) : StrsAt _ (.slice (some ⟨b5, 0, none⟩) 3 3) [(⟨#[101, 102, 102, 101, 99, 116]⟩ : ByteArray), x1.nm, (⟨#[123]⟩ : ByteArray)]) (by simp only [List.length_append, List.length_cons, List.length_nil]; omega)) (fun e w10 hR' => ?_)
   obtain ⟨va1, rfl, hb2', hO1, hF1, hMn1⟩ := hR'
   refine ⟨_, rfl, ?_⟩
   have nn_b1 : ¬ (b1 = b2 ∨ some b1 = Value.ownBlock v1) := fun e => e.elim n_b1_b2 (hO.neT hb1 rfl)
   replace hb1 := hF1.old _ _ nn_b1 hb1
   have nn_b3 : ¬ (b3 = b2 ∨ some b3 = Value.ownBlock v1) := fun e => e.elim (Ne.symm n_b2_b3) (hO.neT hb3 rfl)
   replace hb3 := hF1.old _ _ nn_b3 hb3
   have nn_b4 : ¬ (b4 = b2 ∨ some b4 = Value.ownBlock v1) := fun e => e.elim (Ne.symm n_b2_b4) (hO.neT hb4 rfl)
   replace hb4 := hF1.old _ _ nn_b4 hb4
   have nn_b5 : ¬ (b5 = b2 ∨ some b5 = Value.ownBlock v1) := fun e => e.elim (Ne.symm n_b2_b5) q_hO_b5
   replace hb5 := hF1.old _ _ nn_b5 hb5
   replace hb2 := hb2'
   have ghO1 := hMn1.ge hB.size gO1
   replace hB := hF1.below hB hB.size (ws_ge gb2 gO1)
   refine At.ops0 ?_
   refine At.wpcN .nil ?_
   refine At.wpcZ ?_
   refine At.thenN ?_
   refine At.seq ?_
   refine At.region ?_
   refine At.load rfl (Ld.ownCell ag64 hb3 rfl) rfl ?_
   refine At.fieldAddr rfl fo58_1 rfl ?_
   refine At.load rfl (Ld.ownCell ag56 hb4 (((hp).eff hx1)).c1) rfl ?_
   refine At.lenSl rfl ((((hp).eff hx1)).opsAt).okL el56 rfl ?_
   refine At.makeFunc rfl rfl ?_
   have nnc_b4 : ¬ (b4 = b2 ∨ some b4 = Value.ownBlock va1) := fun e => e.elim (Ne.symm n_b2_b4) (hO1.neT hb4 rfl)
   have nnc_b3 : ¬ (b3 = b2 ∨ some b3 = Value.ownBlock va1) := fun e => e.elim (Ne.symm n_b2_b3) (hO1.neT hb3 rfl)
   refine At.call en21 rfl rfl (between_any b2 va1 (((p.effs.take k).flatMap effW') ++ [(⟨#[101, 102, 102, 101, 99, 116]⟩ : ByteArray), x1.nm, (⟨#[123]⟩ : ByteArray)]) x1.ops.length (⟨#[59]⟩ : ByteArray) 22 [.pointer (some ⟨b4, 0, none⟩), .pointer (some ⟨b3, 0, none⟩)] (fun i => (x1.ops.map opW).getD i []) w _ hB gb2 ghO1 hb2 hO1 (by omega) (by simp only [List.length_append, List.length_cons, List.length_nil]; omega) en22 (fun i v1 l1 w1 hi xB xg xF xM xb xO xl => by
    obtain ⟨s, hs⟩ := some_of_lt (l := x1.ops) (i := i) (by omega)
    have he : (x1.ops.map opW).getD i [] = opW s := by rw [List.getD_eq_getElem?_getD, List.getElem?_map, hs]; rfl
    rw [he] at xl ⊢
    have hrs := (right_eff hR0 x1 (List.mem_of_getElem? hx1)).2 s (List.mem_of_getElem? hs)
    exact opi_any b2 v1 l1 w x1 b4 b3 i s w1 xB gb2 xg xb xO (hp.effOk x1 (List.mem_of_getElem? hx1)) (xF.old _ _ nnc_b4 hb4) (xF.old _ _ nnc_b3 hb3) n_b2_b4 n_b2_b3 (Ne.symm n_b3_b4) hs (ty_range hrs.2.1) (ty_range hrs.2.2) xl)) (fun e w11 hR' => ?_)
   obtain ⟨va2, rfl, hb2', hO2, hF2, hMn2⟩ := hR'
   refine ⟨_, rfl, ?_⟩
   have nn_b1 : ¬ (b1 = b2 ∨ some b1 = Value.ownBlock va1) := fun e => e.elim n_b1_b2 (hO1.neT hb1 rfl)
   replace hb1 := hF2.old _ _ nn_b1 hb1
   have nn_b3 : ¬ (b3 = b2 ∨ some b3 = Value.ownBlock va1) := fun e => e.elim (Ne.symm n_b2_b3) (hO1.neT hb3 rfl)
   replace hb3 := hF2.old _ _ nn_b3 hb3
   have nn_b4 : ¬ (b4 = b2 ∨ some b4 = Value.ownBlock va1) := fun e => e.elim (Ne.symm n_b2_b4) (hO1.neT hb4 rfl)
   replace hb4 := hF2.old _ _ nn_b4 hb4
   clear hb5
   replace hb2 := hb2'
   have ghO2 := hMn2.ge hB.size ghO1
   replace hB := hF2.below hB hB.size (ws_ge gb2 ghO1)
   refine At.ops0 ?_
   refine At.thenN ?_
   refine At.region ?_
   refine At.load rfl (Ld.ownCell ag64 hb3 rfl) rfl ?_
   refine At.nilCheck rfl rfl ?_
   refine At.fieldAddr rfl fo68_0 rfl ?_
   refine At.buildSlice (xs := [.const (.string (⟨#[125]⟩ : ByteArray))]) rfl rfl el27 sz9 ze9 (by intro v hv; simp only [List.mem_cons, List.not_mem_nil, or_false] at hv; rcases hv with rfl <;> first | rfl | simp [Value.cells, Value.cells]) rfl (by decide) rfl (fun b6 w12 F6 => ?_)
   have q_hO2_b6 : some b6 ≠ Value.ownBlock va2 := Own.neFresh hO2 F6
   have n_b1_b6 : b1 ≠ b6 := Nat.ne_of_lt (F6.lt hb1)
   have n_b2_b6 : b2 ≠ b6 := Nat.ne_of_lt (F6.lt hb2)
   have n_b3_b6 : b3 ≠ b6 := Nat.ne_of_lt (F6.lt hb3)
   have n_b4_b6 : b4 ≠ b6 := Nat.ne_of_lt (F6.lt hb4)
   have gb6 := F6.ge hB
   replace hb1 := F6.old hb1
   replace hb2 := F6.old hb2
   replace hb3 := F6.old hb3
   replace hb4 := F6.old hb4
   replace hO2 := hO2.fresh F6
   have hb6 : w12.heap[b6]? = some (.cells #[.string (⟨#[125]⟩ : ByteArray)] 9) := F6.new
   replace hB := F6.below' hB
   refine At.call en20 rfl rfl (add_any b2 va2 ((((p.effs.take k).flatMap effW') ++ [(⟨#[101, 102, 102, 101, 99, 116]⟩ : ByteArray), x1.nm, (⟨#[123]⟩ : ByteArray)]) ++ (btN (⟨#[59]⟩ : ByteArray) (fun i => (x1.ops.map opW).getD i []) x1.ops.length)) (.slice (some ⟨b6, 0, none⟩) 1 1) ([(⟨#[125]⟩ : ByteArray)]) w _ hB gb2 ghO2 hb2 hO2 (StrsAt.own (ss := [(⟨#[125]⟩ : ByteArray)]) hb6 rfl (by decide) : StrsAt _ (.slice (some ⟨b6, 0, none⟩) 1 1) [(⟨#[125]⟩ : ByteArray)]) (by simp only [List.length_append, List.length_cons, List.length_nil]; omega)) (fun e w13 hR' => ?_)
   obtain ⟨va3, rfl, hb2', hO3, hF3, hMn3⟩ := hR'
   refine ⟨_, rfl, ?_⟩
   have nn_b1 : ¬ (b1 = b2 ∨ some b1 = Value.ownBlock va2) := fun e => e.elim n_b1_b2 (hO2.neT hb1 rfl)
   replace hb1 := hF3.old _ _ nn_b1 hb1
   have nn_b3 : ¬ (b3 = b2 ∨ some b3 = Value.ownBlock va2) := fun e => e.elim (Ne.symm n_b2_b3) (hO2.neT hb3 rfl)
   replace hb3 := hF3.old _ _ nn_b3 hb3
   have nn_b4 : ¬ (b4 = b2 ∨ some b4 = Value.ownBlock va2) := fun e => e.elim (Ne.symm n_b2_b4) (hO2.neT hb4 rfl)
   replace hb4 := hF3.old _ _ nn_b4 hb4
   have nn_b6 : ¬ (b6 = b2 ∨ some b6 = Value.ownBlock va2) := fun e => e.elim (Ne.symm n_b2_b6) q_hO2_b6
   replace hb6 := hF3.old _ _ nn_b6 hb6
   replace hb2 := hb2'
   have ghO3 := hMn3.ge hB.size ghO2
   replace hB := hF3.below hB hB.size (ws_ge gb2 ghO2)
   refine At.ops0 ?_
   refine At.inN ?_
   refine At.thenN ?_
   refine At.region ?_
   refine At.addI rfl rfl rfl (by omega) ?_
   refine At.move rfl rfl ?_
   refine At.ops0 ?_
   refine At.thenN ?_
   have hn1 : (((((p.effs.take k).flatMap effW') ++ [(⟨#[101, 102, 102, 101, 99, 116]⟩ : ByteArray), x1.nm, (⟨#[123]⟩ : ByteArray)]) ++ (btN (⟨#[59]⟩ : ByteArray) (fun i => (x1.ops.map opW).getD i []) x1.ops.length)) ++ [(⟨#[125]⟩ : ByteArray)]) = (p.effs.take (k + 1)).flatMap effW' := by rw [← flat_next hx1]; simp [effW']
   exact fun act_ hact_ => ⟨((k + 1), va3), hact_.sub (Sub.cons rfl (Sub.cons rfl (Sub.cons rfl (Sub.cons rfl (Sub.cons rfl Sub.nil))))), ⟨hB, hb1, hb2, hb3, ((show _ = (p.effs.take (k + 1)).flatMap effW' from hn1) ▸ hO3), (ghO3), (by omega)⟩, by first | omega | (dsimp only; omega)⟩
  ·skip
   have hc2' := of_decide_eq_false hc2
   refine At.exit ?_
   refine At.thenE ?_
   refine At.thenE ?_
   refine At.inE ?_
   refine At.thenN ?_
   refine At.seq ?_
   refine At.seq ?_
   refine At.region ?_
   refine At.fieldAddr rfl fo35_1 rfl ?_
   refine At.load rfl (Ld.ownCell ag23 hb1 (hp).c1) rfl ?_
   refine At.lenSl rfl ((hp).datsAt).okL el23 rfl ?_
   refine At.move rfl rfl ?_
   refine At.ops0 ?_
   refine At.thenN ?_
   refine At.block ?_
   have hq0 : ((p.effs.take k).flatMap effW') = ((p.effs.flatMap effW') ++ ((p.dats.take 0).flatMap datW')) := by rw [List.take_of_length_le (by omega)]; simp
   refine At.loop (Nat × Value) (fun (q, v1) => [(1, .pointer (some ⟨b1, 0, none⟩)), (4, .pointer (some ⟨b3, 0, none⟩)), (41, p.dv), (42, .int .i64 (p.dats.length : Int)), (43, .int .i64 (q : Int))]) (fun (q, v1) w14 => Below w.heap.size w w14 ∧ w14.heap[b1]? = some (.cells p.cs 35) ∧ w14.heap[b2]? = some (.cells #[v1] 68) ∧ w14.heap[b3]? = some (.cells #[.pointer (some ⟨b2, 0, none⟩)] 64) ∧ OwnS 9 w14 v1 ((p.effs.flatMap effW') ++ ((p.dats.take q).flatMap datW')) ∧ (∀ g, v1.ownBlock = some g → w.heap.size ≤ g) ∧ (q ≤ p.dats.length)) (fun (q, v1) => p.dats.length - q) (0, v1) (Sub.cons rfl (Sub.cons rfl (Sub.cons rfl (Sub.cons rfl (Sub.cons rfl Sub.nil))))) ⟨hB, hb1, hb2, hb3, (hq0 ▸ hO), (gO1), (Nat.zero_le _)⟩ (fun gh w14 hI => ?_)
   obtain ⟨q, v1⟩ := gh
   clear hB hb1 hb2 hb3 hO
   obtain ⟨hB, hb1, hb2, hb3, hO, gO1, hq⟩ := hI
   show At _ _ [(1, .pointer (some ⟨b1, 0, none⟩)), (4, .pointer (some ⟨b3, 0, none⟩)), (41, p.dv), (42, .int .i64 (p.dats.length : Int)), (43, .int .i64 (q : Int))] _ _
   have hlp := hp.effsAt.lenL; have hlq := hp.datsAt.lenL
   refine At.seq ?_
   refine At.region ?_
   refine At.lss rfl rfl rfl ?_
   refine At.ops0 ?_
   refine At.thenN ?_
   refine At.seq ?_
   refine At.cond (b := decide ((q : Int) < (p.dats.length : Int))) rfl (fun hc3 => ?_) (fun hc3 => ?_)
   ·skip
    have hc3' := of_decide_eq_true hc3
    refine At.skip ?_
    refine At.thenN ?_
    refine At.seq ?_
    refine At.block ?_
    refine At.seq ?_
    obtain ⟨y1, hy1⟩ := some_of_lt (l := p.dats) (i := q) (by omega)
    have hfp := flat_part datW' hy1; have hle : (datW' y1).length = (3 + (btN (⟨#[59]⟩ : ByteArray) (fun i => (y1.cons.map cnW').getD i []) y1.cons.length).length) + 1 := by simp [datW']; omega
    have hol := (hp.datOk y1 (List.mem_of_getElem? hy1)).consAt.lenL
    refine At.region ?_
    refine At.indexAddr (i := q) rfl rfl ((hp).datsAt).okL (lt_of_some hy1) el23 sz61 rfl ?_
    refine At.load rfl (Ld.row ag61 (sz61.trans (congrArg some (((hp).dat hy1)).size.symm)) ((((hp).datsAt).row hy1).keep hB)) rfl ?_
    refine At.alloc ze61 rfl (fun b7 w15 F7 => ?_)
    have n_b1_b7 : b1 ≠ b7 := Nat.ne_of_lt (F7.lt hb1)
    have n_b2_b7 : b2 ≠ b7 := Nat.ne_of_lt (F7.lt hb2)
    have n_b3_b7 : b3 ≠ b7 := Nat.ne_of_lt (F7.lt hb3)
    have gb7 := F7.ge hB
    replace hb1 := F7.old hb1
    replace hb2 := F7.old hb2
    replace hb3 := F7.old hb3
    replace hO := hO.fresh F7
    have hb7 : w15.heap[b7]? = some (.cells #[.string (⟨#[]⟩ : ByteArray), (.slice none 0 0)] 61) := F7.new
    replace hB := F7.below' hB
    refine At.storeAll rfl rfl hb7 (sz61.trans (congrArg some (((hp).dat hy1)).size.symm)) (((hp).dat hy1)).size.symm (((hp).dat hy1)).one (fun w16 S3 => ?_)
    replace hb1 := S3.other hb1 n_b1_b7
    replace hb2 := S3.other hb2 n_b2_b7
    replace hb3 := S3.other hb3 n_b3_b7
    replace hO := hO.set S3 (hO.neT hb7 rfl)
    replace hb7 : w16.heap[b7]? = some (.cells y1.cs 61) := S3.new
    replace hB := S3.below' hB gb7
    refine At.ops0 ?_
    refine At.thenN ?_
    refine At.seq ?_
    refine At.drawG (n := 7) mixed (by kernel_rfl) rfl (PanicOk.then (PanicOk.block (PanicOk.then (PanicOk.then (PanicOk.block (PanicOk.then PanicOk.body)))))) ?_
    have hB := Below.drewB hB
    have hb1 : _ := (show w16.drew.heap[b1]? = _ from hb1)
    have hb2 : _ := (show w16.drew.heap[b2]? = _ from hb2)
    have hb3 : _ := (show w16.drew.heap[b3]? = _ from hb3)
    have hb7 : _ := (show w16.drew.heap[b7]? = _ from hb7)
    have hO := hO.drew
    refine At.wpcS (i := 0) (d := 47) (.pointer (some ⟨b2, 0, none⟩)) (by kernel_rfl) rfl rfl rfl (fun Lx => ?_) ?_
    ·skip
     refine At.load rfl (Ld.ownCell ag64 hb3 rfl) rfl ?_
     refine At.ops0 ?_
     exact fun a ha => ⟨ha, rfl⟩
    refine At.wpcS (i := 1) (d := 48) (.pointer (some ⟨b2, 0, none⟩)) (by kernel_rfl) rfl rfl rfl (fun Lx => ?_) ?_
    ·skip
     refine At.nilCheck rfl rfl ?_
     refine At.ops0 ?_
     exact fun a ha => ⟨ha, rfl⟩
    refine At.wpcS (i := 2) (d := 49) (.pointer (some ⟨b2, 0 + 0, none⟩)) (by kernel_rfl) rfl rfl rfl (fun Lx => ?_) ?_
    ·skip
     refine At.fieldAddr rfl fo68_0 rfl ?_
     refine At.ops0 ?_
     exact fun a ha => ⟨ha, rfl⟩
    refine At.wpcS (i := 3) (d := 50) (.pointer (some ⟨b7, 0 + 0, none⟩)) (by kernel_rfl) rfl rfl rfl (fun Lx => ?_) ?_
    ·skip
     refine At.fieldAddr rfl fo61_0 rfl ?_
     refine At.ops0 ?_
     exact fun a ha => ⟨ha, rfl⟩
    refine At.wpcS (i := 4) (d := 51) (.string y1.nm) (by kernel_rfl) rfl rfl rfl (fun Lx => ?_) ?_
    ·skip
     refine At.load rfl (Ld.ownCell ag9 hb7 (((hp).dat hy1)).c0) rfl ?_
     refine At.ops0 ?_
     exact fun a ha => ⟨ha, rfl⟩
    refine At.wpcE [5] (by kernel_rfl) (by kernel_rfl) (.cons [0, 1, 2] rfl (by kernel_rfl) ?_ .nil)
    refine At.buildSlice (xs := [.const (.string (⟨#[100, 97, 116, 97]⟩ : ByteArray)), .tmp 51, .const (.string (⟨#[123]⟩ : ByteArray))]) rfl rfl el27 sz9 ze9 (by intro v hv; simp only [List.mem_cons, List.not_mem_nil, or_false] at hv; rcases hv with rfl | rfl | rfl <;> first | rfl | simp [Value.cells, Value.cells]) rfl (by decide) rfl (fun b8 w17 F8 => ?_)
    have q_hO_b8 : some b8 ≠ Value.ownBlock v1 := Own.neFresh hO F8
    have n_b1_b8 : b1 ≠ b8 := Nat.ne_of_lt (F8.lt hb1)
    have n_b2_b8 : b2 ≠ b8 := Nat.ne_of_lt (F8.lt hb2)
    have n_b3_b8 : b3 ≠ b8 := Nat.ne_of_lt (F8.lt hb3)
    have n_b7_b8 : b7 ≠ b8 := Nat.ne_of_lt (F8.lt hb7)
    have gb8 := F8.ge hB
    replace hb1 := F8.old hb1
    replace hb2 := F8.old hb2
    replace hb3 := F8.old hb3
    replace hb7 := F8.old hb7
    replace hO := hO.fresh F8
    have hb8 : w17.heap[b8]? = some (.cells #[.string (⟨#[100, 97, 116, 97]⟩ : ByteArray), .string y1.nm, .string (⟨#[123]⟩ : ByteArray)] 9) := F8.new
    replace hB := F8.below' hB
    refine At.ops0 ?_
    refine At.wpcN (.cons rfl rfl rfl rfl (fun Lx => ?_) (.cons rfl rfl rfl rfl (fun Lx => ?_) (.cons rfl rfl rfl rfl (fun Lx => ?_) .nil))) ?_
    ·skip
     refine At.load rfl (Ld.ownCell ag64 hb3 rfl) rfl ?_
     refine At.ops0 ?_
     exact fun a ha => ⟨ha, rfl⟩
    ·skip
     refine At.nilCheck rfl rfl ?_
     refine At.ops0 ?_
     exact fun a ha => ⟨ha, rfl⟩
    ·skip
     refine At.fieldAddr rfl fo68_0 rfl ?_
     refine At.ops0 ?_
     exact fun a ha => ⟨ha, rfl⟩
    refine At.wpcE [6] (by kernel_rfl) (by kernel_rfl) (.cons [] rfl (by kernel_rfl) ?_ .nil)
    refine At.call en20 rfl rfl (add_any b2 v1 ((p.effs.flatMap effW') ++ ((p.dats.take q).flatMap datW')) (.slice (some ⟨b8, 0, none⟩) 3 3) ([(⟨#[100, 97, 116, 97]⟩ : ByteArray), y1.nm, (⟨#[123]⟩ : ByteArray)]) w _ hB gb2 gO1 hb2 hO (StrsAt.own (ss := [(⟨#[100, 97, 116, 97]⟩ : ByteArray), y1.nm, (⟨#[123]⟩ : ByteArray)]) hb8 rfl (by decide) : StrsAt _ (.slice (some ⟨b8, 0, none⟩) 3 3) [(⟨#[100, 97, 116, 97]⟩ : ByteArray), y1.nm, (⟨#[123]⟩ : ByteArray)]) (by simp only [List.length_append, List.length_cons, List.length_nil]; omega)) (fun e w18 hR' => ?_)
    obtain ⟨va4, rfl, hb2', hO4, hF4, hMn4⟩ := hR'
    refine ⟨_, rfl, ?_⟩
    have nn_b1 : ¬ (b1 = b2 ∨ some b1 = Value.ownBlock v1) := fun e => e.elim n_b1_b2 (hO.neT hb1 rfl)
    replace hb1 := hF4.old _ _ nn_b1 hb1
    have nn_b3 : ¬ (b3 = b2 ∨ some b3 = Value.ownBlock v1) := fun e => e.elim (Ne.symm n_b2_b3) (hO.neT hb3 rfl)
    replace hb3 := hF4.old _ _ nn_b3 hb3
    have nn_b7 : ¬ (b7 = b2 ∨ some b7 = Value.ownBlock v1) := fun e => e.elim (Ne.symm n_b2_b7) (hO.neT hb7 rfl)
    replace hb7 := hF4.old _ _ nn_b7 hb7
    have nn_b8 : ¬ (b8 = b2 ∨ some b8 = Value.ownBlock v1) := fun e => e.elim (Ne.symm n_b2_b8) q_hO_b8
    replace hb8 := hF4.old _ _ nn_b8 hb8
    replace hb2 := hb2'
    have ghO4 := hMn4.ge hB.size gO1
    replace hB := hF4.below hB hB.size (ws_ge gb2 gO1)
    refine At.ops0 ?_
    refine At.wpcN .nil ?_
    refine At.wpcZ ?_
    refine At.thenN ?_
    refine At.seq ?_
    refine At.region ?_
    refine At.load rfl (Ld.ownCell ag64 hb3 rfl) rfl ?_
    refine At.fieldAddr rfl fo61_1 rfl ?_
    refine At.load rfl (Ld.ownCell ag59 hb7 (((hp).dat hy1)).c1) rfl ?_
    refine At.lenSl rfl ((((hp).dat hy1)).consAt).okL el59 rfl ?_
    refine At.makeFunc rfl rfl ?_
    have nnc_b3 : ¬ (b3 = b2 ∨ some b3 = Value.ownBlock va4) := fun e => e.elim (Ne.symm n_b2_b3) (hO4.neT hb3 rfl)
    have nnc_b7 : ¬ (b7 = b2 ∨ some b7 = Value.ownBlock va4) := fun e => e.elim (Ne.symm n_b2_b7) (hO4.neT hb7 rfl)
    refine At.call en21 rfl rfl (between_any b2 va4 (((p.effs.flatMap effW') ++ ((p.dats.take q).flatMap datW')) ++ [(⟨#[100, 97, 116, 97]⟩ : ByteArray), y1.nm, (⟨#[123]⟩ : ByteArray)]) y1.cons.length (⟨#[59]⟩ : ByteArray) 24 [.pointer (some ⟨b3, 0, none⟩), .pointer (some ⟨b7, 0, none⟩)] (fun i => (y1.cons.map cnW').getD i []) w _ hB gb2 ghO4 hb2 hO4 (by omega) (by simp only [List.length_append, List.length_cons, List.length_nil]; omega) en24 (fun i v1 l1 w1 hi xB xg xF xM xb xO xl => by
     obtain ⟨s, hs⟩ := some_of_lt (l := y1.cons) (i := i) (by omega)
     have he : (y1.cons.map cnW').getD i [] = cnW' s := by rw [List.getD_eq_getElem?_getD, List.getElem?_map, hs]; rfl
     rw [he] at xl ⊢
     have hrs := (right_dat hR0 y1 (List.mem_of_getElem? hy1)).2 s (List.mem_of_getElem? hs)
     exact coni_any b2 v1 l1 w y1 b3 b7 i s w1 xB gb2 xg xb xO (hp.datOk y1 (List.mem_of_getElem? hy1)) (xF.old _ _ nnc_b3 hb3) (xF.old _ _ nnc_b7 hb7) n_b2_b3 n_b2_b7 n_b3_b7 hs (fun t ht => ty_range (hrs.2 t ht)) xl)) (fun e w19 hR' => ?_)
    obtain ⟨va5, rfl, hb2', hO5, hF5, hMn5⟩ := hR'
    refine ⟨_, rfl, ?_⟩
    have nn_b1 : ¬ (b1 = b2 ∨ some b1 = Value.ownBlock va4) := fun e => e.elim n_b1_b2 (hO4.neT hb1 rfl)
    replace hb1 := hF5.old _ _ nn_b1 hb1
    have nn_b3 : ¬ (b3 = b2 ∨ some b3 = Value.ownBlock va4) := fun e => e.elim (Ne.symm n_b2_b3) (hO4.neT hb3 rfl)
    replace hb3 := hF5.old _ _ nn_b3 hb3
    have nn_b7 : ¬ (b7 = b2 ∨ some b7 = Value.ownBlock va4) := fun e => e.elim (Ne.symm n_b2_b7) (hO4.neT hb7 rfl)
    replace hb7 := hF5.old _ _ nn_b7 hb7
    clear hb8
    replace hb2 := hb2'
    have ghO5 := hMn5.ge hB.size ghO4
    replace hB := hF5.below hB hB.size (ws_ge gb2 ghO4)
    refine At.ops0 ?_
    refine At.thenN ?_
    refine At.region ?_
    refine At.load rfl (Ld.ownCell ag64 hb3 rfl) rfl ?_
    refine At.nilCheck rfl rfl ?_
    refine At.fieldAddr rfl fo68_0 rfl ?_
    refine At.buildSlice (xs := [.const (.string (⟨#[125]⟩ : ByteArray))]) rfl rfl el27 sz9 ze9 (by intro v hv; simp only [List.mem_cons, List.not_mem_nil, or_false] at hv; rcases hv with rfl <;> first | rfl | simp [Value.cells, Value.cells]) rfl (by decide) rfl (fun b9 w20 F9 => ?_)
    have q_hO5_b9 : some b9 ≠ Value.ownBlock va5 := Own.neFresh hO5 F9
    have n_b1_b9 : b1 ≠ b9 := Nat.ne_of_lt (F9.lt hb1)
    have n_b2_b9 : b2 ≠ b9 := Nat.ne_of_lt (F9.lt hb2)
    have n_b3_b9 : b3 ≠ b9 := Nat.ne_of_lt (F9.lt hb3)
    have n_b7_b9 : b7 ≠ b9 := Nat.ne_of_lt (F9.lt hb7)
    have gb9 := F9.ge hB
    replace hb1 := F9.old hb1
    replace hb2 := F9.old hb2
    replace hb3 := F9.old hb3
    replace hb7 := F9.old hb7
    replace hO5 := hO5.fresh F9
    have hb9 : w20.heap[b9]? = some (.cells #[.string (⟨#[125]⟩ : ByteArray)] 9) := F9.new
    replace hB := F9.below' hB
    refine At.call en20 rfl rfl (add_any b2 va5 ((((p.effs.flatMap effW') ++ ((p.dats.take q).flatMap datW')) ++ [(⟨#[100, 97, 116, 97]⟩ : ByteArray), y1.nm, (⟨#[123]⟩ : ByteArray)]) ++ (btN (⟨#[59]⟩ : ByteArray) (fun i => (y1.cons.map cnW').getD i []) y1.cons.length)) (.slice (some ⟨b9, 0, none⟩) 1 1) ([(⟨#[125]⟩ : ByteArray)]) w _ hB gb2 ghO5 hb2 hO5 (StrsAt.own (ss := [(⟨#[125]⟩ : ByteArray)]) hb9 rfl (by decide) : StrsAt _ (.slice (some ⟨b9, 0, none⟩) 1 1) [(⟨#[125]⟩ : ByteArray)]) (by simp only [List.length_append, List.length_cons, List.length_nil]; omega)) (fun e w21 hR' => ?_)
    obtain ⟨va6, rfl, hb2', hO6, hF6, hMn6⟩ := hR'
    refine ⟨_, rfl, ?_⟩
    have nn_b1 : ¬ (b1 = b2 ∨ some b1 = Value.ownBlock va5) := fun e => e.elim n_b1_b2 (hO5.neT hb1 rfl)
    replace hb1 := hF6.old _ _ nn_b1 hb1
    have nn_b3 : ¬ (b3 = b2 ∨ some b3 = Value.ownBlock va5) := fun e => e.elim (Ne.symm n_b2_b3) (hO5.neT hb3 rfl)
    replace hb3 := hF6.old _ _ nn_b3 hb3
    have nn_b7 : ¬ (b7 = b2 ∨ some b7 = Value.ownBlock va5) := fun e => e.elim (Ne.symm n_b2_b7) (hO5.neT hb7 rfl)
    replace hb7 := hF6.old _ _ nn_b7 hb7
    have nn_b9 : ¬ (b9 = b2 ∨ some b9 = Value.ownBlock va5) := fun e => e.elim (Ne.symm n_b2_b9) q_hO5_b9
    replace hb9 := hF6.old _ _ nn_b9 hb9
    replace hb2 := hb2'
    have ghO6 := hMn6.ge hB.size ghO5
    replace hB := hF6.below hB hB.size (ws_ge gb2 ghO5)
    refine At.ops0 ?_
    refine At.inN ?_
    refine At.thenN ?_
    refine At.region ?_
    refine At.addI rfl rfl rfl (by omega) ?_
    refine At.move rfl rfl ?_
    refine At.ops0 ?_
    refine At.thenN ?_
    have hn2 : (((((p.effs.flatMap effW') ++ ((p.dats.take q).flatMap datW')) ++ [(⟨#[100, 97, 116, 97]⟩ : ByteArray), y1.nm, (⟨#[123]⟩ : ByteArray)]) ++ (btN (⟨#[59]⟩ : ByteArray) (fun i => (y1.cons.map cnW').getD i []) y1.cons.length)) ++ [(⟨#[125]⟩ : ByteArray)]) = (p.effs.flatMap effW') ++ ((p.dats.take (q + 1)).flatMap datW') := by rw [← flat_next hy1]; simp [datW']
    exact fun act_ hact_ => ⟨((q + 1), va6), hact_.sub (Sub.cons rfl (Sub.cons rfl (Sub.cons rfl (Sub.cons rfl (Sub.cons rfl Sub.nil))))), ⟨hB, hb1, hb2, hb3, (hn2 ▸ hO6), (ghO6), (by omega)⟩, by first | omega | (dsimp only; omega)⟩
   ·skip
    have hc3' := of_decide_eq_false hc3
    refine At.exit ?_
    refine At.thenE ?_
    refine At.thenE ?_
    refine At.inE ?_
    refine At.thenN ?_
    refine At.seq ?_
    have hqd : q = p.dats.length := by omega
    have hdl : ((p.dats.take q).flatMap datW').length = (p.dats.flatMap datW').length := by rw [hqd, List.take_length]
    refine At.region ?_
    refine At.load rfl (Ld.ownCell ag64 hb3 rfl) rfl ?_
    refine At.fieldAddr rfl fo35_2 rfl ?_
    refine At.load rfl (Ld.ownPart ag33 (sz33.trans (congrArg some ((hp).bodyOk).size.symm)) hb1 (hp).bodyCs) rfl ?_
    refine At.call en25 rfl rfl ((expr_all htab hp.bodyOk hz.body hri) v1 ((p.effs.flatMap effW') ++ ((p.dats.take q).flatMap datW')) _ hB gb2 gO1 hb2 hO (by simp only [List.length_append, List.length_cons, List.length_nil]; omega)) (fun e w22 hR' => ?_)
    obtain ⟨va7, rfl, hb2', hO7, hF7, hMn7⟩ := hR'
    refine ⟨_, rfl, ?_⟩
    have nn_b1 : ¬ (b1 = b2 ∨ some b1 = Value.ownBlock v1) := fun e => e.elim n_b1_b2 (hO.neT hb1 rfl)
    replace hb1 := hF7.old _ _ nn_b1 hb1
    have nn_b3 : ¬ (b3 = b2 ∨ some b3 = Value.ownBlock v1) := fun e => e.elim (Ne.symm n_b2_b3) (hO.neT hb3 rfl)
    replace hb3 := hF7.old _ _ nn_b3 hb3
    replace hb2 := hb2'
    have ghO7 := hMn7.ge hB.size gO1
    replace hB := hF7.below hB hB.size (ws_ge gb2 gO1)
    refine At.ops0 ?_
    refine At.thenN ?_
    refine At.seq ?_
    have hpw : (((p.effs.flatMap effW') ++ ((p.dats.take q).flatMap datW')) ++ (exprW p.body)) = printW p := by rw [hqd, List.take_length]; simp [printW, declW]
    rw [hpw] at hO7
    refine At.region ?_
    refine At.load rfl (Ld.ownCell ag64 hb3 rfl) rfl ?_
    refine At.nilCheck rfl rfl ?_
    refine At.fieldAddr rfl fo68_0 rfl ?_
    refine At.fieldAddr rfl fo66_0 rfl ?_
    refine At.load rfl (Ld.ownCell ag27 hb2 rfl) rfl ?_
    refine At.call en26 rfl rfl (joinB_any va7 (printW p) _ hO7.strs (hf1) (hf2)) (fun e w23 hR' => ?_)
    obtain ⟨rfl, hbl2⟩ := hR'
    refine ⟨_, rfl, ?_⟩
    replace hb1 := Below.old hbl2 hb1
    replace hb2 := Below.old hbl2 hb2
    replace hb3 := Below.old hbl2 hb3
    replace hO7 := hO7.below hbl2
    replace hB := Below.andThen hB hbl2
    refine At.assign rfl rfl ?_
    refine At.assign rfl rfl ?_
    refine At.ops0 ?_
    refine At.thenN ?_
    refine At.retc ?_
    refine At.doneR (ResV.tmp rfl (ResV.tmp rfl ResV.nil)) ?_
    exact ⟨by simp only [printL, hR0]; rfl, hB⟩
end Go.Proofs.YtkclecfbjfdfkaaGreatDoor
