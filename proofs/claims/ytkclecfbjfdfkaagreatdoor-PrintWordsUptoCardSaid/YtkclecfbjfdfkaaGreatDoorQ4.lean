/-
 The walks of the writer. Written by a program of ours.
-/
import Derived.Test.YtkclecfbjfdfkaaGreatDoorQ3
import Derived.Test.YtkclecfbjfdfkaaGreatDoorP3
set_option linter.unusedVariables false
set_option linter.unusedSimpArgs false
namespace Go.Proofs.YtkclecfbjfdfkaaGreatDoor
open Go.RowKit
theorem ag64 : aggB Tryz.prog 64 = some false := by kernel_rfl
theorem by9 : bytesB Tryz.prog 9 = some 16 := by kernel_rfl
theorem en20 : entB Tryz.prog 20 = true := by kernel_rfl
theorem en21 : entB Tryz.prog 21 = true := by kernel_rfl
theorem en25 : entB Tryz.prog 25 = true := by kernel_rfl
theorem en46 : entB Tryz.prog 46 = true := by kernel_rfl
theorem en47 : entB Tryz.prog 47 = true := by kernel_rfl
theorem en48 : entB Tryz.prog 48 = true := by kernel_rfl
theorem en49 : entB Tryz.prog 49 = true := by kernel_rfl
theorem en50 : entB Tryz.prog 50 = true := by kernel_rfl
theorem en79 : entB Tryz.prog 79 = true := by kernel_rfl
theorem en80 : entB Tryz.prog 80 = true := by kernel_rfl
theorem fo66_0 : fieldB Tryz.prog 66 0 = some (0, 1) := by kernel_rfl
theorem fo68_0 : fieldB Tryz.prog 68 0 = some (0, 1) := by kernel_rfl
theorem sz27 : sizeB Tryz.prog 27 = some 1 := by kernel_rfl
theorem add_any (b0 : Nat) (v : Value) (ls : List ByteArray) (vl : Value) (xs : List ByteArray) (w0 : World) (w : World) (hB0 : Below w0.heap.size w0 w) (hbg : w0.heap.size ≤ b0) (gO : ∀ g, v.ownBlock = some g → w0.heap.size ≤ g) (hb0 : w.heap[b0]? = some (.cells #[v] 68)) (hO : OwnS 9 w v ls) (hvl : StrsAt w vl xs) (hl : ls.length + xs.length ≤ 4398046511104) :
  Calls Tryz.prog 20 ([.pointer (some ⟨b0, 0, none⟩), vl] : List Value).toArray w fun e w' => ∃ v', e = .returned (.tuple #[]) ∧ w'.heap[b0]? = some (.cells #[v'] 68) ∧ OwnS 9 w' v' (ls ++ xs) ∧ Fr (fun k => k = b0 ∨ some k = v.ownBlock) w w' ∧ Moved w v v' := by
 have hSge := ws_ge hbg gO
 have hM := Moved.refl w v
 have hR := Fr.refl (fun k => k = b0 ∨ some k = v.ownBlock) w
 have hB := hB0
 refine At.enter (N := 13) Tryz.func20 rfl rfl (by simp) [(0, .pointer (some ⟨b0, 0, none⟩)), (1, vl)] (by simp) ?_
 refine At.region ?_
 refine At.move rfl rfl ?_
 refine At.move rfl rfl ?_
 refine At.nilCheck rfl rfl ?_
 refine At.fieldAddr rfl fo66_0 rfl ?_
 refine At.load rfl (Ld.ownCell ag27 hb0 rfl) rfl ?_
 refine At.move rfl rfl ?_
 refine At.appendS (ss := ls) rfl rfl el27 el27 sz9 by9 ze9 rfl hO ((hvl).keep (Below.refl _ _)) (by omega) rfl (fun va1 w1 hO1 hA1 => ?_)
 replace hb0 := hA1.old hb0 (hO.neT hb0 rfl)
 have ghO1 := hA1.ge (Nat.le_trans hB0.size hR.size) gO
 replace hR := hR.appF hA1 (fun g hg => .inl (.inr hg.symm))
 replace hB := Fr.below hR hB0 hB0.size hSge
 refine At.nilCheck rfl rfl ?_
 refine At.fieldAddr rfl fo66_0 rfl ?_
 refine At.store1 rfl rfl hb0 sz27 (by simp) ((hO1.strs).ok).one (fun w2 S1 => ?_)
 replace hO1 := hO1.set S1 (hO1.neT hb0 rfl)
 replace hb0 : w2.heap[b0]? = some (.cells #[va1] 68) := S1.new
 replace hR := hR.setF S1 (.inl (.inl rfl))
 replace hB := Fr.below hR hB0 hB0.size hSge
 refine At.ops0 ?_
 refine At.doneN (ResV.nil) ?_
 exact ⟨va1, rfl, hb0, hO1, hR, hA1.blk⟩
theorem between_any (b0 : Nat) (v : Value) (ls : List ByteArray) (n : Nat) (sep : ByteArray) (c : FuncId) (cap : List Value) (f : Nat → List ByteArray) (w0 : World) (w : World) (hB0 : Below w0.heap.size w0 w) (hbg : w0.heap.size ≤ b0) (gO : ∀ g, v.ownBlock = some g → w0.heap.size ≤ g) (hb0 : w.heap[b0]? = some (.cells #[v] 68)) (hO : OwnS 9 w v ls) (hn : n ≤ 9223372036854775807) (hl : ls.length + (btN sep f n).length ≤ 4398046511104) (hent : entB Tryz.prog c = true)
  (hone : (∀ (i : Nat) (v1 : Value) (l1 : List ByteArray) (w1 : World), i < n → Below w0.heap.size w0 w1 → (∀ g, v1.ownBlock = some g → w0.heap.size ≤ g) → Fr (fun k => k = b0 ∨ some k = v.ownBlock) w w1 → Moved w v v1 → w1.heap[b0]? = some (.cells #[v1] 68) → OwnS 9 w1 v1 l1 → l1.length + (f i).length ≤ 4398046511104 → Calls Tryz.prog c ([.int .i64 (i : Int)] ++ cap : List Value).toArray w1 fun e w2 => ∃ v', e = .returned (.tuple #[]) ∧ w2.heap[b0]? = some (.cells #[v'] 68) ∧ OwnS 9 w2 v' (l1 ++ f i) ∧ Fr (fun k => k = b0 ∨ some k = v1.ownBlock) w1 w2 ∧ Moved w1 v1 v')) :
  Calls Tryz.prog 21 ([.pointer (some ⟨b0, 0, none⟩), .int .i64 (n : Int), .string sep, .func (.func c) #[] cap.toArray] : List Value).toArray w fun e w' => ∃ v', e = .returned (.tuple #[]) ∧ w'.heap[b0]? = some (.cells #[v'] 68) ∧ OwnS 9 w' v' (ls ++ btN sep f n) ∧ Fr (fun k => k = b0 ∨ some k = v.ownBlock) w w' ∧ Moved w v v' := by
 have hSge := ws_ge hbg gO
 have hM := Moved.refl w v
 have hR := Fr.refl (fun k => k = b0 ∨ some k = v.ownBlock) w
 have hB := hB0
 refine At.enter (N := 25) Tryz.func21 rfl rfl (by simp) [(0, .pointer (some ⟨b0, 0, none⟩)), (1, .int .i64 (n : Int)), (2, .string sep), (3, .func (.func c) #[] cap.toArray)] (by simp) ?_
 refine At.seq ?_
 refine At.region ?_
 refine At.move rfl rfl ?_
 refine At.move rfl rfl ?_
 refine At.ops0 ?_
 refine At.thenN ?_
 refine At.block ?_
 refine At.loop (Nat × Value) (fun (k, v1) => [(0, .pointer (some ⟨b0, 0, none⟩)), (2, .string sep), (3, .func (.func c) #[] cap.toArray), (9, .int .i64 (n : Int)), (10, .int .i64 (k : Int))]) (fun (k, v1) w1 => Fr (fun k => k = b0 ∨ some k = v.ownBlock) w w1 ∧ w1.heap[b0]? = some (.cells #[v1] 68) ∧ OwnS 9 w1 v1 (ls ++ btN sep f k) ∧ (∀ g, v1.ownBlock = some g → w0.heap.size ≤ g) ∧ (k ≤ n) ∧ (Moved w v v1)) (fun (k, v1) => n - k) (0, v) (Sub.cons rfl (Sub.cons rfl (Sub.cons rfl (Sub.cons rfl (Sub.cons rfl Sub.nil))))) ⟨hR, hb0, (by rw [btN, List.append_nil]; exact hO), (gO), (Nat.zero_le _), (hM)⟩ (fun gh w1 hI => ?_)
 obtain ⟨k, v1⟩ := gh
 clear hR hB hb0 hO
 obtain ⟨hR, hb0, hO, gO1, hkb, hM⟩ := hI
 have hB := Fr.below hR hB0 hB0.size hSge
 show At _ _ [(0, .pointer (some ⟨b0, 0, none⟩)), (2, .string sep), (3, .func (.func c) #[] cap.toArray), (9, .int .i64 (n : Int)), (10, .int .i64 (k : Int))] _ _
 refine At.seq ?_
 refine At.region ?_
 refine At.lss rfl rfl rfl ?_
 refine At.ops0 ?_
 refine At.thenN ?_
 refine At.seq ?_
 refine At.cond (b := decide ((k : Int) < (n : Int))) rfl (fun hc1 => ?_) (fun hc1 => ?_)
 ·skip
  have hc1' := of_decide_eq_true hc1
  refine At.skip ?_
  refine At.thenN ?_
  refine At.seq ?_
  refine At.block ?_
  refine At.seq ?_
  refine At.region ?_
  refine At.move rfl rfl ?_
  refine At.assign rfl rfl ?_
  refine At.ops0 ?_
  refine At.thenN ?_
  refine At.seq ?_
  refine At.seq ?_
  refine At.region ?_
  refine At.move rfl rfl ?_
  refine At.gtr rfl rfl rfl ?_
  refine At.ops0 ?_
  refine At.thenN ?_
  refine At.cond (b := decide (0 < (k : Int))) rfl (fun hc2 => ?_) (fun hc2 => ?_)
  ·skip
   have hc2' := of_decide_eq_true hc2
   refine At.region ?_
   refine At.move rfl rfl ?_
   refine At.nilCheck rfl rfl ?_
   refine At.fieldAddr rfl fo68_0 rfl ?_
   refine At.move rfl rfl ?_
   refine At.buildSlice (xs := [.tmp 18]) rfl rfl el27 sz9 ze9 (by intro v hv; simp only [List.mem_cons, List.not_mem_nil, or_false] at hv; rcases hv with rfl <;> first | rfl | simp [Value.cells, Value.cells]) rfl (by decide) rfl (fun b1 w2 F1 => ?_)
   have q_hO_b1 : some b1 ≠ Value.ownBlock v1 := Own.neFresh hO F1
   have n_b0_b1 : b0 ≠ b1 := Nat.ne_of_lt (F1.lt hb0)
   have gb1 := Nat.le_trans hR.size (Nat.le_of_eq F1.eq.symm)
   replace hb0 := F1.old hb0
   replace hO := hO.fresh F1
   have hb1 : w2.heap[b1]? = some (.cells #[.string sep] 9) := F1.new
   replace hR := hR.freshF F1
   replace hB := Fr.below hR hB0 hB0.size hSge
   have hsz1 := hR.size
   refine At.call en20 rfl rfl (add_any b0 v1 (ls ++ btN sep f k) (.slice (some ⟨b1, 0, none⟩) 1 1) ([sep]) w0 _ hB hbg gO1 hb0 hO (StrsAt.own (ss := [sep]) hb1 rfl (by decide) : StrsAt _ (.slice (some ⟨b1, 0, none⟩) 1 1) [sep]) (by have := btN_part sep f (show k < n by omega); simp_all; omega)) (fun e w3 hR' => ?_)
   obtain ⟨va1, rfl, hb0', hO1, hF1, hMn1⟩ := hR'
   refine ⟨_, rfl, ?_⟩
   have nn_b1 : ¬ (b1 = b0 ∨ some b1 = Value.ownBlock v1) := fun e => e.elim (Ne.symm n_b0_b1) q_hO_b1
   replace hb1 := hF1.old _ _ nn_b1 hb1
   replace hb0 := hb0'
   have ghO1 := hMn1.ge (Nat.le_trans hB0.size hR.size) gO1
   replace hR := Fr.then hR hF1 (ws_sub hM)
   replace hM := Moved.then hM (Nat.le_trans (Nat.le_refl _) hsz1) hMn1
   replace hB := Fr.below hR hB0 hB0.size hSge
   refine At.ops0 ?_
   refine At.thenN ?_
   refine At.region ?_
   refine At.move rfl rfl ?_
   refine At.move rfl rfl ?_
   have hsz2 := hR.size
   refine At.callV rfl hent rfl rfl (hone k va1 ((ls ++ btN sep f k) ++ [sep]) _ (by omega) hB ghO1 hR hM hb0 hO1 (by have := btN_part sep f (show k < n by omega); simp_all; omega)) (fun e w4 hR' => ?_)
   obtain ⟨va2, rfl, hb0', hO2, hF2, hMn2⟩ := hR'
   refine ⟨_, rfl, ?_⟩
   clear hb1
   replace hb0 := hb0'
   have ghO2 := hMn2.ge (Nat.le_trans hB0.size hR.size) ghO1
   replace hR := Fr.then hR hF2 (ws_sub hM)
   replace hM := Moved.then hM (Nat.le_trans (Nat.le_refl _) hsz2) hMn2
   replace hB := Fr.below hR hB0 hB0.size hSge
   refine At.ops0 ?_
   refine At.inN ?_
   refine At.thenN ?_
   refine At.region ?_
   refine At.addI rfl rfl rfl (by omega) ?_
   refine At.move rfl rfl ?_
   refine At.ops0 ?_
   refine At.thenN ?_
   exact fun act_ hact_ => ⟨((k + 1), va2), hact_.sub (Sub.cons rfl (Sub.cons rfl (Sub.cons rfl (Sub.cons rfl (Sub.cons rfl Sub.nil))))), ⟨hR, hb0, (btN_nextT hc2 ▸ hO2), (ghO2), (by omega), (hM)⟩, by first | omega | (dsimp only; omega)⟩
  ·skip
   have hc2' := of_decide_eq_false hc2
   refine At.skip ?_
   refine At.thenN ?_
   refine At.region ?_
   refine At.move rfl rfl ?_
   refine At.move rfl rfl ?_
   have hsz3 := hR.size
   refine At.callV rfl hent rfl rfl (hone k v1 (ls ++ btN sep f k) _ (by omega) hB gO1 hR hM hb0 hO (by have := btN_part sep f (show k < n by omega); simp_all; omega)) (fun e w5 hR' => ?_)
   obtain ⟨va3, rfl, hb0', hO3, hF3, hMn3⟩ := hR'
   refine ⟨_, rfl, ?_⟩
   replace hb0 := hb0'
   have ghO3 := hMn3.ge (Nat.le_trans hB0.size hR.size) gO1
   replace hR := Fr.then hR hF3 (ws_sub hM)
   replace hM := Moved.then hM (Nat.le_trans (Nat.le_refl _) hsz3) hMn3
   replace hB := Fr.below hR hB0 hB0.size hSge
   refine At.ops0 ?_
   refine At.inN ?_
   refine At.thenN ?_
   refine At.region ?_
   refine At.addI rfl rfl rfl (by omega) ?_
   refine At.move rfl rfl ?_
   refine At.ops0 ?_
   refine At.thenN ?_
   exact fun act_ hact_ => ⟨((k + 1), va3), hact_.sub (Sub.cons rfl (Sub.cons rfl (Sub.cons rfl (Sub.cons rfl (Sub.cons rfl Sub.nil))))), ⟨hR, hb0, (btN_nextF hc2 ▸ hO3), (ghO3), (by omega), (hM)⟩, by first | omega | (dsimp only; omega)⟩
 ·skip
  have hc1' := of_decide_eq_false hc1
  refine At.exit ?_
  refine At.thenE ?_
  refine At.thenE ?_
  refine At.inE ?_
  refine At.doneN (ResV.nil) ?_
  have hkn : k = n := by omega
  subst hkn
  exact ⟨v1, rfl, hb0, hO, hR, hM⟩
/-- A call of one of the writer's functions at a term writes these words. -/
def ExC (F : FuncId) (w0 : World) (b0 : Nat) (t : Tm) (ws : List ByteArray) : Prop := ∀ (v : Value) (ls : List ByteArray) (w : World), Below w0.heap.size w0 w → w0.heap.size ≤ b0 → (∀ g, v.ownBlock = some g → w0.heap.size ≤ g) → w.heap[b0]? = some (.cells #[v] 68) → OwnS 9 w v ls → ls.length + ws.length ≤ 4398046511104 →
 Calls Tryz.prog F ([.pointer (some ⟨b0, 0, none⟩), .agg t.cs] : List Value).toArray w fun e w' => ∃ v', e = .returned (.tuple #[]) ∧ w'.heap[b0]? = some (.cells #[v'] 68) ∧ OwnS 9 w' v' (ls ++ ws) ∧ Fr (fun k => k = b0 ∨ some k = v.ownBlock) w w' ∧ Moved w v v'
theorem kid1_any (b0 : Nat) (v : Value) (ls : List ByteArray) (w0 : World) (t : Tm) (p1 p2 : Nat) (i : Nat) (u : Tm) (w : World) (hB0 : Below w0.heap.size w0 w) (hbg : w0.heap.size ≤ b0) (gO : ∀ g, v.ownBlock = some g → w0.heap.size ≤ g) (hb0 : w.heap[b0]? = some (.cells #[v] 68)) (hO : OwnS 9 w v ls) (ht : TmOk w0 t) (hp1 : w.heap[p1]? = some (.cells #[.pointer (some ⟨b0, 0, none⟩)] 64)) (hp2 : w.heap[p2]? = some (.cells t.cs 33)) (n_b0_p1 : b0 ≠ p1) (n_b0_p2 : b0 ≠ p2) (n_p1_p2 : p1 ≠ p2) (hu : t.kids[i]? = some u) (hex : ExC 25 w0 b0 u (exprW u)) (hl : ls.length + (exprW u).length ≤ 4398046511104) :
  Calls Tryz.prog 80 ([.int .i64 (i : Int), .pointer (some ⟨p1, 0, none⟩), .pointer (some ⟨p2, 0, none⟩)] : List Value).toArray w fun e w' => ∃ v', e = .returned (.tuple #[]) ∧ w'.heap[b0]? = some (.cells #[v'] 68) ∧ OwnS 9 w' v' (ls ++ exprW u) ∧ Fr (fun k => k = b0 ∨ some k = v.ownBlock) w w' ∧ Moved w v v' := by
 have hSge := ws_ge hbg gO
 have hM := Moved.refl w v
 have hR := Fr.refl (fun k => k = b0 ∨ some k = v.ownBlock) w
 have hB := hB0
 refine At.enter (N := 11) Tryz.func80 rfl rfl (by simp) [(0, .int .i64 (i : Int)), (1, .pointer (some ⟨p1, 0, none⟩)), (2, .pointer (some ⟨p2, 0, none⟩))] (by simp) ?_
 refine At.drawG (n := 7) mixed (by kernel_rfl) rfl PanicOk.body ?_
 have hR := Fr.drewF hR
 have hB := Below.drewB hB
 have hb0 : _ := (show w.drew.heap[b0]? = _ from hb0)
 have hp1 : _ := (show w.drew.heap[p1]? = _ from hp1)
 have hp2 : _ := (show w.drew.heap[p2]? = _ from hp2)
 have hO := hO.drew
 refine At.wpcS (i := 0) (d := 4) (.pointer (some ⟨b0, 0, none⟩)) (by kernel_rfl) rfl rfl rfl (fun Lx => ?_) ?_
 ·skip
  refine At.load rfl (Ld.ownCell ag64 hp1 rfl) rfl ?_
  refine At.ops0 ?_
  exact fun a ha => ⟨ha, rfl⟩
 refine At.wpcS (i := 1) (d := 5) (.pointer (some ⟨p2, 0 + 5, none⟩)) (by kernel_rfl) rfl rfl rfl (fun Lx => ?_) ?_
 ·skip
  refine At.fieldAddr rfl fo33_5 rfl ?_
  refine At.ops0 ?_
  exact fun a ha => ⟨ha, rfl⟩
 refine At.wpcS (i := 2) (d := 6) (t.kv) (by kernel_rfl) rfl rfl rfl (fun Lx => ?_) ?_
 ·skip
  refine At.load rfl (Ld.ownCell ag24 hp2 (ht).c5) rfl ?_
  refine At.ops0 ?_
  exact fun a ha => ⟨ha, rfl⟩
 refine At.wpcS (i := 3) (d := 7) (.int .i64 (i : Int)) (by kernel_rfl) rfl rfl rfl (fun Lx => ?_) ?_
 ·skip
  refine At.move rfl rfl ?_
  refine At.ops0 ?_
  exact fun a ha => ⟨ha, rfl⟩
 refine At.wpcS (i := 4) (d := 8) (.pointer (some ⟨vBlock t.kv, vOff t.kv + i * 21, none⟩)) (by kernel_rfl) rfl rfl rfl (fun Lx => ?_) ?_
 ·skip
  refine At.indexAddr (i := i) rfl rfl ((ht).kidsAt).okL (lt_of_some hu) el24 sz33 rfl ?_
  refine At.ops0 ?_
  exact fun a ha => ⟨ha, rfl⟩
 refine At.wpcS (i := 5) (d := 9) (.agg u.cs) (by kernel_rfl) rfl rfl rfl (fun Lx => ?_) ?_
 ·skip
  refine At.load rfl (Ld.row ag33 (sz33.trans (congrArg some (((ht).kid hu)).size.symm)) ((((ht).kidsAt).row hu).keep hB)) rfl ?_
  refine At.ops0 ?_
  exact fun a ha => ⟨ha, rfl⟩
 refine At.wpcE [6] (by kernel_rfl) (by kernel_rfl) (.cons [] rfl (by kernel_rfl) ?_ .nil)
 have hsz1 := hR.size
 refine At.call en25 rfl rfl (hex v ls _ hB hbg gO hb0 hO (by omega)) (fun e w1 hR' => ?_)
 obtain ⟨va1, rfl, hb0', hO1, hF1, hMn1⟩ := hR'
 refine ⟨_, rfl, ?_⟩
 have nn_p1 : ¬ (p1 = b0 ∨ some p1 = Value.ownBlock v) := fun e => e.elim (Ne.symm n_b0_p1) (hO.neT hp1 rfl)
 replace hp1 := hF1.old _ _ nn_p1 hp1
 have nn_p2 : ¬ (p2 = b0 ∨ some p2 = Value.ownBlock v) := fun e => e.elim (Ne.symm n_b0_p2) (hO.neT hp2 rfl)
 replace hp2 := hF1.old _ _ nn_p2 hp2
 replace hb0 := hb0'
 have ghO1 := hMn1.ge (Nat.le_trans hB0.size hR.size) gO
 replace hR := Fr.then hR hF1 (ws_sub hM)
 replace hM := Moved.then hM (Nat.le_trans (Nat.le_refl _) hsz1) hMn1
 replace hB := Fr.below hR hB0 hB0.size hSge
 refine At.ops0 ?_
 refine At.wpcN .nil ?_
 refine At.wpcZ ?_
 refine At.doneN (ResV.nil) ?_
 exact ⟨va1, rfl, hb0, hO1, hR, hM⟩
theorem parts_any (b0 : Nat) (v : Value) (ls : List ByteArray) (w0 : World) (t : Tm) (p1 p2 : Nat) (vl : Value) (xs : List ByteArray) (w : World) (hB0 : Below w0.heap.size w0 w) (hbg : w0.heap.size ≤ b0) (gO : ∀ g, v.ownBlock = some g → w0.heap.size ≤ g) (hb0 : w.heap[b0]? = some (.cells #[v] 68)) (hO : OwnS 9 w v ls) (ht : TmOk w0 t) (hp1 : w.heap[p1]? = some (.cells #[.pointer (some ⟨b0, 0, none⟩)] 64)) (hp2 : w.heap[p2]? = some (.cells t.cs 33)) (n_b0_p1 : b0 ≠ p1) (n_b0_p2 : b0 ≠ p2) (n_p1_p2 : p1 ≠ p2) (hvl : StrsAt w vl xs) (hap : xs ≠ [] → ¬ (vBlock vl = b0 ∨ some (vBlock vl) = v.ownBlock)) (hxl : xs.length ≤ t.kids.length) (hex : ∀ (i : Nat) (u : Tm), i < xs.length → t.kids[i]? = some u → ExC 25 w0 b0 u (exprW u)) (hl : ls.length + (ptN xs (eK (eaL t.kids)) xs.length).length ≤ 4398046511104) :
  Calls Tryz.prog 49 ([vl, .pointer (some ⟨p1, 0, none⟩), .pointer (some ⟨p2, 0, none⟩)] : List Value).toArray w fun e w' => ∃ v', e = .returned (.tuple #[]) ∧ w'.heap[b0]? = some (.cells #[v'] 68) ∧ OwnS 9 w' v' (ls ++ (ptN xs (eK (eaL t.kids)) xs.length)) ∧ Fr (fun k => k = b0 ∨ some k = v.ownBlock) w w' ∧ Moved w v v' := by
 have hSge := ws_ge hbg gO
 have hM := Moved.refl w v
 have hxm := hvl.len
 have hR := Fr.refl (fun k => k = b0 ∨ some k = v.ownBlock) w
 have hB := hB0
 refine At.enter (N := 27) Tryz.func49 rfl rfl (by simp) [(0, vl), (1, .pointer (some ⟨p1, 0, none⟩)), (2, .pointer (some ⟨p2, 0, none⟩))] (by simp) ?_
 refine At.seq ?_
 refine At.region ?_
 refine At.move rfl rfl ?_
 refine At.lenSl rfl (hvl).ok el27 rfl ?_
 refine At.move rfl rfl ?_
 refine At.ops0 ?_
 refine At.thenN ?_
 refine At.block ?_
 refine At.loop (Nat × Value) (fun (k, v1) => [(1, .pointer (some ⟨p1, 0, none⟩)), (2, .pointer (some ⟨p2, 0, none⟩)), (6, vl), (7, .int .i64 (xs.length : Int)), (8, .int .i64 (k : Int))]) (fun (k, v1) w1 => Fr (fun k => k = b0 ∨ some k = v.ownBlock) w w1 ∧ w1.heap[b0]? = some (.cells #[v1] 68) ∧ w1.heap[p1]? = some (.cells #[.pointer (some ⟨b0, 0, none⟩)] 64) ∧ w1.heap[p2]? = some (.cells t.cs 33) ∧ OwnS 9 w1 v1 (ls ++ (ptN xs (eK (eaL t.kids)) k)) ∧ (∀ g, v1.ownBlock = some g → w0.heap.size ≤ g) ∧ (k ≤ xs.length) ∧ (Moved w v v1)) (fun (k, v1) => xs.length - k) (0, v) (Sub.cons rfl (Sub.cons rfl (Sub.cons rfl (Sub.cons rfl (Sub.cons rfl Sub.nil))))) ⟨hR, hb0, hp1, hp2, (by rw [ptN, List.append_nil]; exact hO), (gO), (Nat.zero_le _), (hM)⟩ (fun gh w1 hI => ?_)
 obtain ⟨k, v1⟩ := gh
 clear hR hB hb0 hp1 hp2 hO
 obtain ⟨hR, hb0, hp1, hp2, hO, gO1, hkb, hM⟩ := hI
 have hB := Fr.below hR hB0 hB0.size hSge
 show At _ _ [(1, .pointer (some ⟨p1, 0, none⟩)), (2, .pointer (some ⟨p2, 0, none⟩)), (6, vl), (7, .int .i64 (xs.length : Int)), (8, .int .i64 (k : Int))] _ _
 refine At.seq ?_
 refine At.region ?_
 refine At.lss rfl rfl rfl ?_
 refine At.ops0 ?_
 refine At.thenN ?_
 refine At.seq ?_
 refine At.cond (b := decide ((k : Int) < (xs.length : Int))) rfl (fun hc1 => ?_) (fun hc1 => ?_)
 ·skip
  have hc1' := of_decide_eq_true hc1
  refine At.skip ?_
  refine At.thenN ?_
  refine At.seq ?_
  refine At.block ?_
  refine At.seq ?_
  obtain ⟨x1, hx1⟩ := some_of_lt (l := xs) (i := k) (by omega)
  obtain ⟨u1, hu1⟩ := some_of_lt (l := t.kids) (i := k) (by omega)
  have hpl := ptN_part' (xs := xs) hu1 (show k < xs.length by omega)
  refine At.region ?_
  refine At.move rfl rfl ?_
  refine At.indexAddr (i := k) rfl rfl (hvl).ok (lt_of_some hx1) el27 sz9 rfl ?_
  refine At.load rfl (Ld.cell ag9 (cell_keep (((StrsAt.frN hvl hR hap)).get hx1) (Below.refl _ _))) rfl ?_
  refine At.assign rfl rfl ?_
  refine At.assign rfl rfl ?_
  refine At.ops0 ?_
  refine At.thenN ?_
  refine At.seq ?_
  refine At.region ?_
  refine At.load rfl (Ld.ownCell ag64 hp1 rfl) rfl ?_
  refine At.nilCheck rfl rfl ?_
  refine At.fieldAddr rfl fo68_0 rfl ?_
  refine At.move rfl rfl ?_
  refine At.buildSlice (xs := [.tmp 16]) rfl rfl el27 sz9 ze9 (by intro v hv; simp only [List.mem_cons, List.not_mem_nil, or_false] at hv; rcases hv with rfl <;> first | rfl | simp [Value.cells, Value.cells]) rfl (by decide) rfl (fun b1 w2 F1 => ?_)
  have q_hO_b1 : some b1 ≠ Value.ownBlock v1 := Own.neFresh hO F1
  have n_b0_b1 : b0 ≠ b1 := Nat.ne_of_lt (F1.lt hb0)
  have n_p1_b1 : p1 ≠ b1 := Nat.ne_of_lt (F1.lt hp1)
  have n_p2_b1 : p2 ≠ b1 := Nat.ne_of_lt (F1.lt hp2)
  have gb1 := Nat.le_trans hR.size (Nat.le_of_eq F1.eq.symm)
  replace hb0 := F1.old hb0
  replace hp1 := F1.old hp1
  replace hp2 := F1.old hp2
  replace hO := hO.fresh F1
  have hb1 : w2.heap[b1]? = some (.cells #[.string x1] 9) := F1.new
  replace hR := hR.freshF F1
  replace hB := Fr.below hR hB0 hB0.size hSge
  have hsz1 := hR.size
  refine At.call en20 rfl rfl (add_any b0 v1 (ls ++ (ptN xs (eK (eaL t.kids)) k)) (.slice (some ⟨b1, 0, none⟩) 1 1) ([x1]) w0 _ hB hbg gO1 hb0 hO (StrsAt.own (ss := [x1]) hb1 rfl (by decide) : StrsAt _ (.slice (some ⟨b1, 0, none⟩) 1 1) [x1]) (by first | omega | (simp only [List.length_append, List.length_cons, List.length_nil] at *; omega))) (fun e w3 hR' => ?_)
  obtain ⟨va1, rfl, hb0', hO1, hF1, hMn1⟩ := hR'
  refine ⟨_, rfl, ?_⟩
  have nn_p1 : ¬ (p1 = b0 ∨ some p1 = Value.ownBlock v1) := fun e => e.elim (Ne.symm n_b0_p1) (hO.neT hp1 rfl)
  replace hp1 := hF1.old _ _ nn_p1 hp1
  have nn_p2 : ¬ (p2 = b0 ∨ some p2 = Value.ownBlock v1) := fun e => e.elim (Ne.symm n_b0_p2) (hO.neT hp2 rfl)
  replace hp2 := hF1.old _ _ nn_p2 hp2
  have nn_b1 : ¬ (b1 = b0 ∨ some b1 = Value.ownBlock v1) := fun e => e.elim (Ne.symm n_b0_b1) q_hO_b1
  replace hb1 := hF1.old _ _ nn_b1 hb1
  replace hb0 := hb0'
  have ghO1 := hMn1.ge (Nat.le_trans hB0.size hR.size) gO1
  replace hR := Fr.then hR hF1 (ws_sub hM)
  replace hM := Moved.then hM (Nat.le_trans (Nat.le_refl _) hsz1) hMn1
  replace hB := Fr.below hR hB0 hB0.size hSge
  refine At.ops0 ?_
  refine At.thenN ?_
  refine At.drawG (n := 7) mixed (by kernel_rfl) rfl (PanicOk.block (PanicOk.then (PanicOk.then (PanicOk.block PanicOk.body)))) ?_
  have hR := Fr.drewF hR
  have hB := Below.drewB hB
  have hb0 : _ := (show w3.drew.heap[b0]? = _ from hb0)
  have hp1 : _ := (show w3.drew.heap[p1]? = _ from hp1)
  have hp2 : _ := (show w3.drew.heap[p2]? = _ from hp2)
  have hb1 : _ := (show w3.drew.heap[b1]? = _ from hb1)
  have hO1 := hO1.drew
  refine At.wpcS (i := 0) (d := 19) (.pointer (some ⟨b0, 0, none⟩)) (by kernel_rfl) rfl rfl rfl (fun Lx => ?_) ?_
  ·skip
   refine At.load rfl (Ld.ownCell ag64 hp1 rfl) rfl ?_
   refine At.ops0 ?_
   exact fun a ha => ⟨ha, rfl⟩
  refine At.wpcS (i := 1) (d := 20) (.pointer (some ⟨p2, 0 + 5, none⟩)) (by kernel_rfl) rfl rfl rfl (fun Lx => ?_) ?_
  ·skip
   refine At.fieldAddr rfl fo33_5 rfl ?_
   refine At.ops0 ?_
   exact fun a ha => ⟨ha, rfl⟩
  refine At.wpcS (i := 2) (d := 21) (t.kv) (by kernel_rfl) rfl rfl rfl (fun Lx => ?_) ?_
  ·skip
   refine At.load rfl (Ld.ownCell ag24 hp2 (ht).c5) rfl ?_
   refine At.ops0 ?_
   exact fun a ha => ⟨ha, rfl⟩
  refine At.wpcS (i := 3) (d := 22) (.int .i64 (k : Int)) (by kernel_rfl) rfl rfl rfl (fun Lx => ?_) ?_
  ·skip
   refine At.move rfl rfl ?_
   refine At.ops0 ?_
   exact fun a ha => ⟨ha, rfl⟩
  refine At.wpcS (i := 4) (d := 23) (.pointer (some ⟨vBlock t.kv, vOff t.kv + k * 21, none⟩)) (by kernel_rfl) rfl rfl rfl (fun Lx => ?_) ?_
  ·skip
   refine At.indexAddr (i := k) rfl rfl ((ht).kidsAt).okL (lt_of_some hu1) el24 sz33 rfl ?_
   refine At.ops0 ?_
   exact fun a ha => ⟨ha, rfl⟩
  refine At.wpcS (i := 5) (d := 24) (.agg u1.cs) (by kernel_rfl) rfl rfl rfl (fun Lx => ?_) ?_
  ·skip
   refine At.load rfl (Ld.row ag33 (sz33.trans (congrArg some (((ht).kid hu1)).size.symm)) ((((ht).kidsAt).row hu1).keep hB)) rfl ?_
   refine At.ops0 ?_
   exact fun a ha => ⟨ha, rfl⟩
  refine At.wpcE [6] (by kernel_rfl) (by kernel_rfl) (.cons [] rfl (by kernel_rfl) ?_ .nil)
  have hsz2 := hR.size
  refine At.call en25 rfl rfl ((hex k u1 (by omega) hu1) va1 ((ls ++ (ptN xs (eK (eaL t.kids)) k)) ++ [x1]) _ hB hbg ghO1 hb0 hO1 (by first | omega | (simp only [List.length_append, List.length_cons, List.length_nil] at *; omega))) (fun e w4 hR' => ?_)
  obtain ⟨va2, rfl, hb0', hO2, hF2, hMn2⟩ := hR'
  refine ⟨_, rfl, ?_⟩
  have nn_p1 : ¬ (p1 = b0 ∨ some p1 = Value.ownBlock va1) := fun e => e.elim (Ne.symm n_b0_p1) (hO1.neT hp1 rfl)
  replace hp1 := hF2.old _ _ nn_p1 hp1
  have nn_p2 : ¬ (p2 = b0 ∨ some p2 = Value.ownBlock va1) := fun e => e.elim (Ne.symm n_b0_p2) (hO1.neT hp2 rfl)
  replace hp2 := hF2.old _ _ nn_p2 hp2
  clear hb1
  replace hb0 := hb0'
  have ghO2 := hMn2.ge (Nat.le_trans hB0.size hR.size) ghO1
  replace hR := Fr.then hR hF2 (ws_sub hM)
  replace hM := Moved.then hM (Nat.le_trans (Nat.le_refl _) hsz2) hMn2
  replace hB := Fr.below hR hB0 hB0.size hSge
  refine At.ops0 ?_
  refine At.wpcN .nil ?_
  refine At.wpcZ ?_
  refine At.inN ?_
  refine At.thenN ?_
  refine At.region ?_
  refine At.addI rfl rfl rfl (by omega) ?_
  refine At.move rfl rfl ?_
  refine At.ops0 ?_
  refine At.thenN ?_
  exact fun act_ hact_ => ⟨((k + 1), va2), hact_.sub (Sub.cons rfl (Sub.cons rfl (Sub.cons rfl (Sub.cons rfl (Sub.cons rfl Sub.nil))))), ⟨hR, hb0, hp1, hp2, (ptN_next hx1 hu1 ▸ hO2), (ghO2), (by omega), (hM)⟩, by first | omega | (dsimp only; omega)⟩
 ·skip
  have hc1' := of_decide_eq_false hc1
  refine At.exit ?_
  refine At.thenE ?_
  refine At.thenE ?_
  refine At.inE ?_
  refine At.doneN (ResV.nil) ?_
  have hkn : k = xs.length := by omega
  subst hkn
  exact ⟨v1, rfl, hb0, hO, hR, hM⟩
theorem arm_any (b0 : Nat) (v : Value) (ls : List ByteArray) (w0 : World) (a : Am) (w : World) (hB0 : Below w0.heap.size w0 w) (hbg : w0.heap.size ≤ b0) (gO : ∀ g, v.ownBlock = some g → w0.heap.size ≤ g) (hb0 : w.heap[b0]? = some (.cells #[v] 68)) (hO : OwnS 9 w v ls) (ha : AmOk w0 a) (hex : ExC 25 w0 b0 a.body (exprW a.body)) (hl : ls.length + (armW a).length ≤ 4398046511104) :
  Calls Tryz.prog 48 ([.pointer (some ⟨b0, 0, none⟩), .agg a.cs] : List Value).toArray w fun e w' => ∃ v', e = .returned (.tuple #[]) ∧ w'.heap[b0]? = some (.cells #[v'] 68) ∧ OwnS 9 w' v' (ls ++ armW a) ∧ Fr (fun k => k = b0 ∨ some k = v.ownBlock) w w' ∧ Moved w v v' := by
 have hSge := ws_ge hbg gO
 have hM := Moved.refl w v
 have hR := Fr.refl (fun k => k = b0 ∨ some k = v.ownBlock) w
 have hB := hB0
 refine At.enter (N := 26) Tryz.func48 rfl rfl (by simp) [(0, .pointer (some ⟨b0, 0, none⟩)), (1, .agg a.cs)] (by simp) ?_
 refine At.seq ?_
 refine At.region ?_
 refine At.box rfl rfl (fun b1 w1 F1 => ?_)
 have n_b0_b1 : b0 ≠ b1 := Nat.ne_of_lt (F1.lt hb0)
 have gb1 := Nat.le_trans hR.size (Nat.le_of_eq F1.eq.symm)
 replace hb0 := F1.old hb0
 replace hO := hO.fresh F1
 have hb1 : w1.heap[b1]? = some (.cells a.cs 48) := F1.new
 replace hR := hR.freshF F1
 replace hB := Fr.below hR hB0 hB0.size hSge
 refine At.ops0 ?_
 refine At.thenN ?_
 refine At.seq ?_
 refine At.drawG (n := 7) mixed (by kernel_rfl) rfl (PanicOk.then PanicOk.body) ?_
 have hR := Fr.drewF hR
 have hB := Below.drewB hB
 have hb0 : _ := (show w1.drew.heap[b0]? = _ from hb0)
 have hb1 : _ := (show w1.drew.heap[b1]? = _ from hb1)
 have hO := hO.drew
 refine At.wpcS (i := 0) (d := 4) (.pointer (some ⟨b0, 0, none⟩)) (by kernel_rfl) rfl rfl rfl (fun Lx => ?_) ?_
 ·skip
  refine At.move rfl rfl ?_
  refine At.ops0 ?_
  exact fun a ha => ⟨ha, rfl⟩
 refine At.wpcS (i := 1) (d := 5) (.pointer (some ⟨b0, 0, none⟩)) (by kernel_rfl) rfl rfl rfl (fun Lx => ?_) ?_
 ·skip
  refine At.nilCheck rfl rfl ?_
  refine At.ops0 ?_
  exact fun a ha => ⟨ha, rfl⟩
 refine At.wpcS (i := 2) (d := 6) (.pointer (some ⟨b0, 0 + 0, none⟩)) (by kernel_rfl) rfl rfl rfl (fun Lx => ?_) ?_
 ·skip
  refine At.fieldAddr rfl fo68_0 rfl ?_
  refine At.ops0 ?_
  exact fun a ha => ⟨ha, rfl⟩
 refine At.wpcS (i := 3) (d := 7) (.pointer (some ⟨b1, 0 + 0, none⟩)) (by kernel_rfl) rfl rfl rfl (fun Lx => ?_) ?_
 ·skip
  refine At.fieldAddr rfl fo48_0 rfl ?_
  refine At.ops0 ?_
  exact fun a ha => ⟨ha, rfl⟩
 refine At.wpcS (i := 4) (d := 8) (.string a.nm) (by kernel_rfl) rfl rfl rfl (fun Lx => ?_) ?_
 ·skip
  refine At.load rfl (Ld.ownCell ag9 hb1 (ha).c0) rfl ?_
  refine At.ops0 ?_
  exact fun a ha => ⟨ha, rfl⟩
 refine At.wpcE [5] (by kernel_rfl) (by kernel_rfl) (.cons [0, 1, 2] rfl (by kernel_rfl) ?_ .nil)
 refine At.buildSlice (xs := [.tmp 8]) rfl rfl el27 sz9 ze9 (by intro v hv; simp only [List.mem_cons, List.not_mem_nil, or_false] at hv; rcases hv with rfl <;> first | rfl | simp [Value.cells, Value.cells]) rfl (by decide) rfl (fun b2 w2 F2 => ?_)
 have q_hO_b2 : some b2 ≠ Value.ownBlock v := Own.neFresh hO F2
 have n_b0_b2 : b0 ≠ b2 := Nat.ne_of_lt (F2.lt hb0)
 have n_b1_b2 : b1 ≠ b2 := Nat.ne_of_lt (F2.lt hb1)
 have gb2 := Nat.le_trans hR.size (Nat.le_of_eq F2.eq.symm)
 replace hb0 := F2.old hb0
 replace hb1 := F2.old hb1
 replace hO := hO.fresh F2
 have hb2 : w2.heap[b2]? = some (.cells #[.string a.nm] 9) := F2.new
 replace hR := hR.freshF F2
 replace hB := Fr.below hR hB0 hB0.size hSge
 refine At.ops0 ?_
 refine At.wpcN (.cons rfl rfl rfl rfl (fun Lx => ?_) (.cons rfl rfl rfl rfl (fun Lx => ?_) (.cons rfl rfl rfl rfl (fun Lx => ?_) .nil))) ?_
 ·skip
  refine At.move rfl rfl ?_
  refine At.ops0 ?_
  exact fun a ha => ⟨ha, rfl⟩
 ·skip
  refine At.nilCheck rfl rfl ?_
  refine At.ops0 ?_
  exact fun a ha => ⟨ha, rfl⟩
 ·skip
  refine At.fieldAddr rfl fo68_0 rfl ?_
  refine At.ops0 ?_
  exact fun a ha => ⟨ha, rfl⟩
 refine At.wpcE [6] (by kernel_rfl) (by kernel_rfl) (.cons [] rfl (by kernel_rfl) ?_ .nil)
 have hsz1 := hR.size
 refine At.call en20 rfl rfl (add_any b0 v ls (.slice (some ⟨b2, 0, none⟩) 1 1) ([a.nm]) w0 _ hB hbg gO hb0 hO (StrsAt.own (ss := [a.nm]) hb2 rfl (by decide) : StrsAt _ (.slice (some ⟨b2, 0, none⟩) 1 1) [a.nm]) (by simp only [armW, List.length_append, List.length_cons, List.length_nil] at hl ⊢; omega)) (fun e w3 hR' => ?_)
 obtain ⟨va1, rfl, hb0', hO1, hF1, hMn1⟩ := hR'
 refine ⟨_, rfl, ?_⟩
 have nn_b1 : ¬ (b1 = b0 ∨ some b1 = Value.ownBlock v) := fun e => e.elim (Ne.symm n_b0_b1) (hO.neT hb1 rfl)
 replace hb1 := hF1.old _ _ nn_b1 hb1
 have nn_b2 : ¬ (b2 = b0 ∨ some b2 = Value.ownBlock v) := fun e => e.elim (Ne.symm n_b0_b2) q_hO_b2
 replace hb2 := hF1.old _ _ nn_b2 hb2
 replace hb0 := hb0'
 have ghO1 := hMn1.ge (Nat.le_trans hB0.size hR.size) gO
 replace hR := Fr.then hR hF1 (ws_sub hM)
 replace hM := Moved.then hM (Nat.le_trans (Nat.le_refl _) hsz1) hMn1
 replace hB := Fr.below hR hB0 hB0.size hSge
 refine At.ops0 ?_
 refine At.wpcN .nil ?_
 refine At.wpcZ ?_
 refine At.thenN ?_
 refine At.seq ?_
 refine At.drawG (n := 6) mixed (by kernel_rfl) rfl (PanicOk.then PanicOk.body) ?_
 have hR := Fr.drewF hR
 have hB := Below.drewB hB
 have hb0 : _ := (show w3.drew.heap[b0]? = _ from hb0)
 have hb1 : _ := (show w3.drew.heap[b1]? = _ from hb1)
 have hb2 : _ := (show w3.drew.heap[b2]? = _ from hb2)
 have hO1 := hO1.drew
 refine At.wpcS (i := 0) (d := 11) (.pointer (some ⟨b0, 0, none⟩)) (by kernel_rfl) rfl rfl rfl (fun Lx => ?_) ?_
 ·skip
  refine At.move rfl rfl ?_
  refine At.ops0 ?_
  exact fun a ha => ⟨ha, rfl⟩
 refine At.wpcS (i := 1) (d := 12) (.pointer (some ⟨b0, 0, none⟩)) (by kernel_rfl) rfl rfl rfl (fun Lx => ?_) ?_
 ·skip
  refine At.nilCheck rfl rfl ?_
  refine At.ops0 ?_
  exact fun a ha => ⟨ha, rfl⟩
 refine At.wpcS (i := 2) (d := 13) (.pointer (some ⟨b0, 0 + 0, none⟩)) (by kernel_rfl) rfl rfl rfl (fun Lx => ?_) ?_
 ·skip
  refine At.fieldAddr rfl fo68_0 rfl ?_
  refine At.ops0 ?_
  exact fun a ha => ⟨ha, rfl⟩
 refine At.wpcS (i := 3) (d := 14) (.pointer (some ⟨b1, 0 + 1, none⟩)) (by kernel_rfl) rfl rfl rfl (fun Lx => ?_) ?_
 ·skip
  refine At.fieldAddr rfl fo48_1 rfl ?_
  refine At.ops0 ?_
  exact fun a ha => ⟨ha, rfl⟩
 refine At.wpcS (i := 4) (d := 15) (a.vv) (by kernel_rfl) rfl rfl rfl (fun Lx => ?_) ?_
 ·skip
  refine At.load rfl (Ld.ownCell ag27 hb1 (ha).c1) rfl ?_
  refine At.ops0 ?_
  exact fun a ha => ⟨ha, rfl⟩
 refine At.wpcE [5] (by kernel_rfl) (by kernel_rfl) (.cons [] rfl (by kernel_rfl) ?_ .nil)
 have hsz2 := hR.size
 refine At.call en20 rfl rfl (add_any b0 va1 (ls ++ [a.nm]) a.vv a.vars w0 _ hB hbg ghO1 hb0 hO1 (((ha).varsAt).keep hB) (by simp only [armW, List.length_append, List.length_cons, List.length_nil] at hl ⊢; omega)) (fun e w4 hR' => ?_)
 obtain ⟨va2, rfl, hb0', hO2, hF2, hMn2⟩ := hR'
 refine ⟨_, rfl, ?_⟩
 have nn_b1 : ¬ (b1 = b0 ∨ some b1 = Value.ownBlock va1) := fun e => e.elim (Ne.symm n_b0_b1) (hO1.neT hb1 rfl)
 replace hb1 := hF2.old _ _ nn_b1 hb1
 clear hb2
 replace hb0 := hb0'
 have ghO2 := hMn2.ge (Nat.le_trans hB0.size hR.size) ghO1
 replace hR := Fr.then hR hF2 (ws_sub hM)
 replace hM := Moved.then hM (Nat.le_trans (Nat.le_refl _) hsz2) hMn2
 replace hB := Fr.below hR hB0 hB0.size hSge
 refine At.ops0 ?_
 refine At.wpcN .nil ?_
 refine At.wpcZ ?_
 refine At.thenN ?_
 refine At.seq ?_
 refine At.region ?_
 refine At.move rfl rfl ?_
 refine At.nilCheck rfl rfl ?_
 refine At.fieldAddr rfl fo68_0 rfl ?_
 refine At.buildSlice (xs := [.const (.string (⟨#[45, 62]⟩ : ByteArray))]) rfl rfl el27 sz9 ze9 (by intro v hv; simp only [List.mem_cons, List.not_mem_nil, or_false] at hv; rcases hv with rfl <;> first | rfl | simp [Value.cells, Value.cells]) rfl (by decide) rfl (fun b3 w5 F3 => ?_)
 have q_hO2_b3 : some b3 ≠ Value.ownBlock va2 := Own.neFresh hO2 F3
 have n_b0_b3 : b0 ≠ b3 := Nat.ne_of_lt (F3.lt hb0)
 have n_b1_b3 : b1 ≠ b3 := Nat.ne_of_lt (F3.lt hb1)
 have gb3 := Nat.le_trans hR.size (Nat.le_of_eq F3.eq.symm)
 replace hb0 := F3.old hb0
 replace hb1 := F3.old hb1
 replace hO2 := hO2.fresh F3
 have hb3 : w5.heap[b3]? = some (.cells #[.string (⟨#[45, 62]⟩ : ByteArray)] 9) := F3.new
 replace hR := hR.freshF F3
 replace hB := Fr.below hR hB0 hB0.size hSge
 have hsz3 := hR.size
 refine At.call en20 rfl rfl (add_any b0 va2 ((ls ++ [a.nm]) ++ a.vars) (.slice (some ⟨b3, 0, none⟩) 1 1) ([(⟨#[45, 62]⟩ : ByteArray)]) w0 _ hB hbg ghO2 hb0 hO2 (StrsAt.own (ss := [(⟨#[45, 62]⟩ : ByteArray)]) hb3 rfl (by decide) : StrsAt _ (.slice (some ⟨b3, 0, none⟩) 1 1) [(⟨#[45, 62]⟩ : ByteArray)]) (by simp only [armW, List.length_append, List.length_cons, List.length_nil] at hl ⊢; omega)) (fun e w6 hR' => ?_)
 obtain ⟨va3, rfl, hb0', hO3, hF3, hMn3⟩ := hR'
 refine ⟨_, rfl, ?_⟩
 have nn_b1 : ¬ (b1 = b0 ∨ some b1 = Value.ownBlock va2) := fun e => e.elim (Ne.symm n_b0_b1) (hO2.neT hb1 rfl)
 replace hb1 := hF3.old _ _ nn_b1 hb1
 have nn_b3 : ¬ (b3 = b0 ∨ some b3 = Value.ownBlock va2) := fun e => e.elim (Ne.symm n_b0_b3) q_hO2_b3
 replace hb3 := hF3.old _ _ nn_b3 hb3
 replace hb0 := hb0'
 have ghO3 := hMn3.ge (Nat.le_trans hB0.size hR.size) ghO2
 replace hR := Fr.then hR hF3 (ws_sub hM)
 replace hM := Moved.then hM (Nat.le_trans (Nat.le_refl _) hsz3) hMn3
 replace hB := Fr.below hR hB0 hB0.size hSge
 refine At.ops0 ?_
 refine At.thenN ?_
 refine At.region ?_
 refine At.move rfl rfl ?_
 refine At.fieldAddr rfl fo48_2 rfl ?_
 refine At.load rfl (Ld.ownPart ag33 (sz33.trans (congrArg some ((ha).body).size.symm)) hb1 (ha).bodyCs) rfl ?_
 have hsz4 := hR.size
 refine At.call en25 rfl rfl (hex va3 (((ls ++ [a.nm]) ++ a.vars) ++ [(⟨#[45, 62]⟩ : ByteArray)]) _ hB hbg ghO3 hb0 hO3 (by simp only [armW, List.length_append, List.length_cons, List.length_nil] at hl ⊢; omega)) (fun e w7 hR' => ?_)
 obtain ⟨va4, rfl, hb0', hO4, hF4, hMn4⟩ := hR'
 refine ⟨_, rfl, ?_⟩
 have nn_b1 : ¬ (b1 = b0 ∨ some b1 = Value.ownBlock va3) := fun e => e.elim (Ne.symm n_b0_b1) (hO3.neT hb1 rfl)
 replace hb1 := hF4.old _ _ nn_b1 hb1
 clear hb3
 replace hb0 := hb0'
 have ghO4 := hMn4.ge (Nat.le_trans hB0.size hR.size) ghO3
 replace hR := Fr.then hR hF4 (ws_sub hM)
 replace hM := Moved.then hM (Nat.le_trans (Nat.le_refl _) hsz4) hMn4
 replace hB := Fr.below hR hB0 hB0.size hSge
 refine At.ops0 ?_
 refine At.doneN (ResV.nil) ?_
 have hq : ((((ls ++ [a.nm]) ++ a.vars) ++ [(⟨#[45, 62]⟩ : ByteArray)]) ++ (exprW a.body)) = ls ++ armW a := by simp [armW]
 exact ⟨va4, rfl, hb0, hq ▸ hO4, hR, hM⟩
theorem armi_any (b0 : Nat) (v : Value) (ls : List ByteArray) (w0 : World) (t : Tm) (p1 p2 : Nat) (i : Nat) (a : Am) (w : World) (hB0 : Below w0.heap.size w0 w) (hbg : w0.heap.size ≤ b0) (gO : ∀ g, v.ownBlock = some g → w0.heap.size ≤ g) (hb0 : w.heap[b0]? = some (.cells #[v] 68)) (hO : OwnS 9 w v ls) (ht : TmOk w0 t) (hp1 : w.heap[p1]? = some (.cells #[.pointer (some ⟨b0, 0, none⟩)] 64)) (hp2 : w.heap[p2]? = some (.cells t.cs 33)) (n_b0_p1 : b0 ≠ p1) (n_b0_p2 : b0 ≠ p2) (n_p1_p2 : p1 ≠ p2) (ha : t.arms[i]? = some a) (hex : ExC 25 w0 b0 a.body (exprW a.body)) (hl : ls.length + (armW a).length ≤ 4398046511104) :
  Calls Tryz.prog 47 ([.int .i64 (i : Int), .pointer (some ⟨p1, 0, none⟩), .pointer (some ⟨p2, 0, none⟩)] : List Value).toArray w fun e w' => ∃ v', e = .returned (.tuple #[]) ∧ w'.heap[b0]? = some (.cells #[v'] 68) ∧ OwnS 9 w' v' (ls ++ armW a) ∧ Fr (fun k => k = b0 ∨ some k = v.ownBlock) w w' ∧ Moved w v v' := by
 have hSge := ws_ge hbg gO
 have hM := Moved.refl w v
 have hR := Fr.refl (fun k => k = b0 ∨ some k = v.ownBlock) w
 have hB := hB0
 refine At.enter (N := 11) Tryz.func47 rfl rfl (by simp) [(0, .int .i64 (i : Int)), (1, .pointer (some ⟨p1, 0, none⟩)), (2, .pointer (some ⟨p2, 0, none⟩))] (by simp) ?_
 refine At.drawG (n := 7) mixed (by kernel_rfl) rfl PanicOk.body ?_
 have hR := Fr.drewF hR
 have hB := Below.drewB hB
 have hb0 : _ := (show w.drew.heap[b0]? = _ from hb0)
 have hp1 : _ := (show w.drew.heap[p1]? = _ from hp1)
 have hp2 : _ := (show w.drew.heap[p2]? = _ from hp2)
 have hO := hO.drew
 refine At.wpcS (i := 0) (d := 4) (.pointer (some ⟨b0, 0, none⟩)) (by kernel_rfl) rfl rfl rfl (fun Lx => ?_) ?_
 ·skip
  refine At.load rfl (Ld.ownCell ag64 hp1 rfl) rfl ?_
  refine At.ops0 ?_
  exact fun a ha => ⟨ha, rfl⟩
 refine At.wpcS (i := 1) (d := 5) (.pointer (some ⟨p2, 0 + 6, none⟩)) (by kernel_rfl) rfl rfl rfl (fun Lx => ?_) ?_
 ·skip
  refine At.fieldAddr rfl fo33_6 rfl ?_
  refine At.ops0 ?_
  exact fun a ha => ⟨ha, rfl⟩
 refine At.wpcS (i := 2) (d := 6) (t.av) (by kernel_rfl) rfl rfl rfl (fun Lx => ?_) ?_
 ·skip
  refine At.load rfl (Ld.ownCell ag25 hp2 (ht).c6) rfl ?_
  refine At.ops0 ?_
  exact fun a ha => ⟨ha, rfl⟩
 refine At.wpcS (i := 3) (d := 7) (.int .i64 (i : Int)) (by kernel_rfl) rfl rfl rfl (fun Lx => ?_) ?_
 ·skip
  refine At.move rfl rfl ?_
  refine At.ops0 ?_
  exact fun a ha => ⟨ha, rfl⟩
 refine At.wpcS (i := 4) (d := 8) (.pointer (some ⟨vBlock t.av, vOff t.av + i * 23, none⟩)) (by kernel_rfl) rfl rfl rfl (fun Lx => ?_) ?_
 ·skip
  refine At.indexAddr (i := i) rfl rfl ((ht).armsAt).okL (lt_of_some ha) el25 sz48 rfl ?_
  refine At.ops0 ?_
  exact fun a ha => ⟨ha, rfl⟩
 refine At.wpcS (i := 5) (d := 9) (.agg a.cs) (by kernel_rfl) rfl rfl rfl (fun Lx => ?_) ?_
 ·skip
  refine At.load rfl (Ld.row ag48 (sz48.trans (congrArg some (((ht).arm ha)).size.symm)) ((((ht).armsAt).row ha).keep hB)) rfl ?_
  refine At.ops0 ?_
  exact fun a ha => ⟨ha, rfl⟩
 refine At.wpcE [6] (by kernel_rfl) (by kernel_rfl) (.cons [] rfl (by kernel_rfl) ?_ .nil)
 have hsz1 := hR.size
 refine At.call en48 rfl rfl (arm_any b0 v ls w0 a _ hB hbg gO hb0 hO (ht.arms a (List.mem_of_getElem? ha)) hex (by omega)) (fun e w1 hR' => ?_)
 obtain ⟨va1, rfl, hb0', hO1, hF1, hMn1⟩ := hR'
 refine ⟨_, rfl, ?_⟩
 have nn_p1 : ¬ (p1 = b0 ∨ some p1 = Value.ownBlock v) := fun e => e.elim (Ne.symm n_b0_p1) (hO.neT hp1 rfl)
 replace hp1 := hF1.old _ _ nn_p1 hp1
 have nn_p2 : ¬ (p2 = b0 ∨ some p2 = Value.ownBlock v) := fun e => e.elim (Ne.symm n_b0_p2) (hO.neT hp2 rfl)
 replace hp2 := hF1.old _ _ nn_p2 hp2
 replace hb0 := hb0'
 have ghO1 := hMn1.ge (Nat.le_trans hB0.size hR.size) gO
 replace hR := Fr.then hR hF1 (ws_sub hM)
 replace hM := Moved.then hM (Nat.le_trans (Nat.le_refl _) hsz1) hMn1
 replace hB := Fr.below hR hB0 hB0.size hSge
 refine At.ops0 ?_
 refine At.wpcN .nil ?_
 refine At.wpcZ ?_
 refine At.doneN (ResV.nil) ?_
 exact ⟨va1, rfl, hb0, hO1, hR, hM⟩
theorem arms_any (b0 : Nat) (v : Value) (ls : List ByteArray) (w0 : World) (t : Tm) (p1 p2 : Nat) (w : World) (hB0 : Below w0.heap.size w0 w) (hbg : w0.heap.size ≤ b0) (gO : ∀ g, v.ownBlock = some g → w0.heap.size ≤ g) (hb0 : w.heap[b0]? = some (.cells #[v] 68)) (hO : OwnS 9 w v ls) (ht : TmOk w0 t) (hp1 : w.heap[p1]? = some (.cells #[.pointer (some ⟨b0, 0, none⟩)] 64)) (hp2 : w.heap[p2]? = some (.cells t.cs 33)) (n_b0_p1 : b0 ≠ p1) (n_b0_p2 : b0 ≠ p2) (n_p1_p2 : p1 ≠ p2) (hba : ∀ a ∈ t.arms, ExC 25 w0 b0 a.body (exprW a.body)) (hl : ls.length + (armsW (eaA t.arms)).length ≤ 4398046511104) :
  Calls Tryz.prog 46 ([.pointer (some ⟨p1, 0, none⟩), .pointer (some ⟨p2, 0, none⟩)] : List Value).toArray w fun e w' => ∃ v', e = .returned (.tuple #[]) ∧ w'.heap[b0]? = some (.cells #[v'] 68) ∧ OwnS 9 w' v' (ls ++ armsW (eaA t.arms)) ∧ Fr (fun k => k = b0 ∨ some k = v.ownBlock) w w' ∧ Moved w v v' := by
 have hSge := ws_ge hbg gO
 have hM := Moved.refl w v
 have hal := ht.armsAt.lenL
 have hR := Fr.refl (fun k => k = b0 ∨ some k = v.ownBlock) w
 have hB := hB0
 refine At.enter (N := 18) Tryz.func46 rfl rfl (by simp) [(0, .pointer (some ⟨p1, 0, none⟩)), (1, .pointer (some ⟨p2, 0, none⟩))] (by simp) ?_
 refine At.seq ?_
 refine At.region ?_
 refine At.load rfl (Ld.ownCell ag64 hp1 rfl) rfl ?_
 refine At.nilCheck rfl rfl ?_
 refine At.fieldAddr rfl fo68_0 rfl ?_
 refine At.buildSlice (xs := [.const (.string (⟨#[123]⟩ : ByteArray))]) rfl rfl el27 sz9 ze9 (by intro v hv; simp only [List.mem_cons, List.not_mem_nil, or_false] at hv; rcases hv with rfl <;> first | rfl | simp [Value.cells, Value.cells]) rfl (by decide) rfl (fun b1 w1 F1 => ?_)
 have q_hO_b1 : some b1 ≠ Value.ownBlock v := Own.neFresh hO F1
 have n_b0_b1 : b0 ≠ b1 := Nat.ne_of_lt (F1.lt hb0)
 have n_p1_b1 : p1 ≠ b1 := Nat.ne_of_lt (F1.lt hp1)
 have n_p2_b1 : p2 ≠ b1 := Nat.ne_of_lt (F1.lt hp2)
 have gb1 := Nat.le_trans hR.size (Nat.le_of_eq F1.eq.symm)
 replace hb0 := F1.old hb0
 replace hp1 := F1.old hp1
 replace hp2 := F1.old hp2
 replace hO := hO.fresh F1
 have hb1 : w1.heap[b1]? = some (.cells #[.string (⟨#[123]⟩ : ByteArray)] 9) := F1.new
 replace hR := hR.freshF F1
 replace hB := Fr.below hR hB0 hB0.size hSge
 have hsz1 := hR.size
 refine At.call en20 rfl rfl (add_any b0 v ls (.slice (some ⟨b1, 0, none⟩) 1 1) ([(⟨#[123]⟩ : ByteArray)]) w0 _ hB hbg gO hb0 hO (StrsAt.own (ss := [(⟨#[123]⟩ : ByteArray)]) hb1 rfl (by decide) : StrsAt _ (.slice (some ⟨b1, 0, none⟩) 1 1) [(⟨#[123]⟩ : ByteArray)]) (by simp only [armsW, eaA_len, List.length_append, List.length_cons, List.length_nil] at hl ⊢; omega)) (fun e w2 hR' => ?_)
 obtain ⟨va1, rfl, hb0', hO1, hF1, hMn1⟩ := hR'
 refine ⟨_, rfl, ?_⟩
 have nn_p1 : ¬ (p1 = b0 ∨ some p1 = Value.ownBlock v) := fun e => e.elim (Ne.symm n_b0_p1) (hO.neT hp1 rfl)
 replace hp1 := hF1.old _ _ nn_p1 hp1
 have nn_p2 : ¬ (p2 = b0 ∨ some p2 = Value.ownBlock v) := fun e => e.elim (Ne.symm n_b0_p2) (hO.neT hp2 rfl)
 replace hp2 := hF1.old _ _ nn_p2 hp2
 have nn_b1 : ¬ (b1 = b0 ∨ some b1 = Value.ownBlock v) := fun e => e.elim (Ne.symm n_b0_b1) q_hO_b1
 replace hb1 := hF1.old _ _ nn_b1 hb1
 replace hb0 := hb0'
 have ghO1 := hMn1.ge (Nat.le_trans hB0.size hR.size) gO
 replace hR := Fr.then hR hF1 (ws_sub hM)
 replace hM := Moved.then hM (Nat.le_trans (Nat.le_refl _) hsz1) hMn1
 replace hB := Fr.below hR hB0 hB0.size hSge
 refine At.ops0 ?_
 refine At.thenN ?_
 refine At.seq ?_
 refine At.region ?_
 refine At.load rfl (Ld.ownCell ag64 hp1 rfl) rfl ?_
 refine At.fieldAddr rfl fo33_6 rfl ?_
 refine At.load rfl (Ld.ownCell ag25 hp2 (ht).c6) rfl ?_
 refine At.lenSl rfl ((ht).armsAt).okL el25 rfl ?_
 refine At.makeFunc rfl rfl ?_
 have hsz2 := hR.size
 have nnc_p1 : ¬ (p1 = b0 ∨ some p1 = Value.ownBlock va1) := fun e => e.elim (Ne.symm n_b0_p1) (hO1.neT hp1 rfl)
 have nnc_p2 : ¬ (p2 = b0 ∨ some p2 = Value.ownBlock va1) := fun e => e.elim (Ne.symm n_b0_p2) (hO1.neT hp2 rfl)
 refine At.call en21 rfl rfl (between_any b0 va1 (ls ++ [(⟨#[123]⟩ : ByteArray)]) t.arms.length (⟨#[59]⟩ : ByteArray) 47 [.pointer (some ⟨p1, 0, none⟩), .pointer (some ⟨p2, 0, none⟩)] (fun i => (eaA t.arms).getD i []) w0 _ hB hbg ghO1 hb0 hO1 (by omega) (by simp only [armsW, eaA_len, List.length_append, List.length_cons, List.length_nil] at hl ⊢; omega) en47 (fun i v1 l1 w1 hi xB xg xF xM xb xO xl => by
  obtain ⟨a, ha⟩ := some_of_lt (l := t.arms) (i := i) (by omega)
  rw [arm_at ha] at xl ⊢
  exact armi_any b0 v1 l1 w0 t p1 p2 i a w1 xB hbg xg xb xO ht (xF.old _ _ nnc_p1 hp1) (xF.old _ _ nnc_p2 hp2) n_b0_p1 n_b0_p2 n_p1_p2 ha (hba a (List.mem_of_getElem? ha)) xl)) (fun e w3 hR' => ?_)
 obtain ⟨va2, rfl, hb0', hO2, hF2, hMn2⟩ := hR'
 refine ⟨_, rfl, ?_⟩
 have nn_p1 : ¬ (p1 = b0 ∨ some p1 = Value.ownBlock va1) := fun e => e.elim (Ne.symm n_b0_p1) (hO1.neT hp1 rfl)
 replace hp1 := hF2.old _ _ nn_p1 hp1
 have nn_p2 : ¬ (p2 = b0 ∨ some p2 = Value.ownBlock va1) := fun e => e.elim (Ne.symm n_b0_p2) (hO1.neT hp2 rfl)
 replace hp2 := hF2.old _ _ nn_p2 hp2
 clear hb1
 replace hb0 := hb0'
 have ghO2 := hMn2.ge (Nat.le_trans hB0.size hR.size) ghO1
 replace hR := Fr.then hR hF2 (ws_sub hM)
 replace hM := Moved.then hM (Nat.le_trans (Nat.le_refl _) hsz2) hMn2
 replace hB := Fr.below hR hB0 hB0.size hSge
 refine At.ops0 ?_
 refine At.thenN ?_
 refine At.region ?_
 refine At.load rfl (Ld.ownCell ag64 hp1 rfl) rfl ?_
 refine At.nilCheck rfl rfl ?_
 refine At.fieldAddr rfl fo68_0 rfl ?_
 refine At.buildSlice (xs := [.const (.string (⟨#[125]⟩ : ByteArray))]) rfl rfl el27 sz9 ze9 (by intro v hv; simp only [List.mem_cons, List.not_mem_nil, or_false] at hv; rcases hv with rfl <;> first | rfl | simp [Value.cells, Value.cells]) rfl (by decide) rfl (fun b2 w4 F2 => ?_)
 have q_hO2_b2 : some b2 ≠ Value.ownBlock va2 := Own.neFresh hO2 F2
 have n_b0_b2 : b0 ≠ b2 := Nat.ne_of_lt (F2.lt hb0)
 have n_p1_b2 : p1 ≠ b2 := Nat.ne_of_lt (F2.lt hp1)
 have n_p2_b2 : p2 ≠ b2 := Nat.ne_of_lt (F2.lt hp2)
 have gb2 := Nat.le_trans hR.size (Nat.le_of_eq F2.eq.symm)
 replace hb0 := F2.old hb0
 replace hp1 := F2.old hp1
 replace hp2 := F2.old hp2
 replace hO2 := hO2.fresh F2
 have hb2 : w4.heap[b2]? = some (.cells #[.string (⟨#[125]⟩ : ByteArray)] 9) := F2.new
 replace hR := hR.freshF F2
 replace hB := Fr.below hR hB0 hB0.size hSge
 have hsz3 := hR.size
 refine At.call en20 rfl rfl (add_any b0 va2 ((ls ++ [(⟨#[123]⟩ : ByteArray)]) ++ (btN (⟨#[59]⟩ : ByteArray) (fun i => (eaA t.arms).getD i []) t.arms.length)) (.slice (some ⟨b2, 0, none⟩) 1 1) ([(⟨#[125]⟩ : ByteArray)]) w0 _ hB hbg ghO2 hb0 hO2 (StrsAt.own (ss := [(⟨#[125]⟩ : ByteArray)]) hb2 rfl (by decide) : StrsAt _ (.slice (some ⟨b2, 0, none⟩) 1 1) [(⟨#[125]⟩ : ByteArray)]) (by simp only [armsW, eaA_len, List.length_append, List.length_cons, List.length_nil] at hl ⊢; omega)) (fun e w5 hR' => ?_)
 obtain ⟨va3, rfl, hb0', hO3, hF3, hMn3⟩ := hR'
 refine ⟨_, rfl, ?_⟩
 have nn_p1 : ¬ (p1 = b0 ∨ some p1 = Value.ownBlock va2) := fun e => e.elim (Ne.symm n_b0_p1) (hO2.neT hp1 rfl)
 replace hp1 := hF3.old _ _ nn_p1 hp1
 have nn_p2 : ¬ (p2 = b0 ∨ some p2 = Value.ownBlock va2) := fun e => e.elim (Ne.symm n_b0_p2) (hO2.neT hp2 rfl)
 replace hp2 := hF3.old _ _ nn_p2 hp2
 have nn_b2 : ¬ (b2 = b0 ∨ some b2 = Value.ownBlock va2) := fun e => e.elim (Ne.symm n_b0_b2) q_hO2_b2
 replace hb2 := hF3.old _ _ nn_b2 hb2
 replace hb0 := hb0'
 have ghO3 := hMn3.ge (Nat.le_trans hB0.size hR.size) ghO2
 replace hR := Fr.then hR hF3 (ws_sub hM)
 replace hM := Moved.then hM (Nat.le_trans (Nat.le_refl _) hsz3) hMn3
 replace hB := Fr.below hR hB0 hB0.size hSge
 refine At.ops0 ?_
 refine At.doneN (ResV.nil) ?_
 have hq : (((ls ++ [(⟨#[123]⟩ : ByteArray)]) ++ (btN (⟨#[59]⟩ : ByteArray) (fun i => (eaA t.arms).getD i []) t.arms.length)) ++ [(⟨#[125]⟩ : ByteArray)]) = ls ++ armsW (eaA t.arms) := by simp [armsW, eaA_len]
 exact ⟨va3, rfl, hb0, hq ▸ hO3, hR, hM⟩
theorem atom_gen (b0 : Nat) (v : Value) (ls : List ByteArray) (w0 : World) (t : Tm) (w : World) (hB0 : Below w0.heap.size w0 w) (hbg : w0.heap.size ≤ b0) (gO : ∀ g, v.ownBlock = some g → w0.heap.size ≤ g) (hb0 : w.heap[b0]? = some (.cells #[v] 68)) (hO : OwnS 9 w v ls) (ht : TmOk w0 t) (hr : RightF t) (hz : t.n ≤ 9223372036854775807) (htab : Tab w0) (hke : ∀ u ∈ t.kids, ExC 25 w0 b0 u (exprW u)) (hself : t.k ≠ 1 → t.k ≠ 2 → t.k ≠ 3 → t.k ≠ 4 → ¬ (t.k = 10 ∧ t.nm = (⟨#[114, 101, 97, 100]⟩ : ByteArray)) → t.k ≠ 11 → ExC 25 w0 b0 t (exprW t)) (hl : ls.length + (atomW t).length ≤ 4398046511104) :
  Calls Tryz.prog 50 ([.pointer (some ⟨b0, 0, none⟩), .agg t.cs] : List Value).toArray w fun e w' => ∃ v', e = .returned (.tuple #[]) ∧ w'.heap[b0]? = some (.cells #[v'] 68) ∧ OwnS 9 w' v' (ls ++ atomW t) ∧ Fr (fun k => k = b0 ∨ some k = v.ownBlock) w w' ∧ Moved w v v' := by
 have hSge := ws_ge hbg gO
 have hM := Moved.refl w v
 have hkl := ht.kidsAt.lenL
 have hR := Fr.refl (fun k => k = b0 ∨ some k = v.ownBlock) w
 have hB := hB0
 refine At.enter (N := 99) Tryz.func50 rfl rfl (by simp) [(0, .pointer (some ⟨b0, 0, none⟩)), (1, .agg t.cs)] (by simp) ?_
 refine At.seq ?_
 refine At.region ?_
 refine At.box rfl rfl (fun b1 w1 F1 => ?_)
 have n_b0_b1 : b0 ≠ b1 := Nat.ne_of_lt (F1.lt hb0)
 have gb1 := Nat.le_trans hR.size (Nat.le_of_eq F1.eq.symm)
 replace hb0 := F1.old hb0
 replace hO := hO.fresh F1
 have hb1 : w1.heap[b1]? = some (.cells #[.pointer (some ⟨b0, 0, none⟩)] 64) := F1.new
 replace hR := hR.freshF F1
 replace hB := Fr.below hR hB0 hB0.size hSge
 refine At.box rfl rfl (fun b2 w2 F2 => ?_)
 have n_b0_b2 : b0 ≠ b2 := Nat.ne_of_lt (F2.lt hb0)
 have n_b1_b2 : b1 ≠ b2 := Nat.ne_of_lt (F2.lt hb1)
 have gb2 := Nat.le_trans hR.size (Nat.le_of_eq F2.eq.symm)
 replace hb0 := F2.old hb0
 replace hb1 := F2.old hb1
 replace hO := hO.fresh F2
 have hb2 : w2.heap[b2]? = some (.cells t.cs 33) := F2.new
 replace hR := hR.freshF F2
 replace hB := Fr.below hR hB0 hB0.size hSge
 refine At.ops0 ?_
 refine At.thenN ?_
 refine At.block ?_
 refine At.seq ?_
 refine At.region ?_
 refine At.fieldAddr rfl fo33_0 rfl ?_
 refine At.load rfl (Ld.ownCell ag3 hb2 (ht).c0) rfl ?_
 refine At.eqI rfl rfl rfl ?_
 refine At.assign rfl rfl ?_
 refine At.ops0 ?_
 refine At.thenN ?_
 refine At.cond (b := decide (t.k = 1)) rfl (fun hc1 => ?_) (fun hc1 => ?_)
 ·skip
  have hc1' := of_decide_eq_true hc1
  refine At.drawG (n := 7) mixed (by kernel_rfl) rfl (PanicOk.block PanicOk.body) ?_
  have hR := Fr.drewF hR
  have hB := Below.drewB hB
  have hb0 : _ := (show w2.drew.heap[b0]? = _ from hb0)
  have hb1 : _ := (show w2.drew.heap[b1]? = _ from hb1)
  have hb2 : _ := (show w2.drew.heap[b2]? = _ from hb2)
  have hO := hO.drew
  refine At.wpcS (i := 0) (d := 21) (.pointer (some ⟨b0, 0, none⟩)) (by kernel_rfl) rfl rfl rfl (fun Lx => ?_) ?_
  ·skip
   refine At.load rfl (Ld.ownCell ag64 hb1 rfl) rfl ?_
   refine At.ops0 ?_
   exact fun a ha => ⟨ha, rfl⟩
  refine At.wpcS (i := 1) (d := 22) (.pointer (some ⟨b0, 0, none⟩)) (by kernel_rfl) rfl rfl rfl (fun Lx => ?_) ?_
  ·skip
   refine At.nilCheck rfl rfl ?_
   refine At.ops0 ?_
   exact fun a ha => ⟨ha, rfl⟩
  refine At.wpcS (i := 2) (d := 23) (.pointer (some ⟨b0, 0 + 0, none⟩)) (by kernel_rfl) rfl rfl rfl (fun Lx => ?_) ?_
  ·skip
   refine At.fieldAddr rfl fo68_0 rfl ?_
   refine At.ops0 ?_
   exact fun a ha => ⟨ha, rfl⟩
  refine At.wpcS (i := 3) (d := 24) (.pointer (some ⟨b2, 0 + 2, none⟩)) (by kernel_rfl) rfl rfl rfl (fun Lx => ?_) ?_
  ·skip
   refine At.fieldAddr rfl fo33_2 rfl ?_
   refine At.ops0 ?_
   exact fun a ha => ⟨ha, rfl⟩
  refine At.wpcS (i := 4) (d := 25) (.string t.nm) (by kernel_rfl) rfl rfl rfl (fun Lx => ?_) ?_
  ·skip
   refine At.load rfl (Ld.ownCell ag9 hb2 (ht).c2) rfl ?_
   refine At.ops0 ?_
   exact fun a ha => ⟨ha, rfl⟩
  refine At.wpcE [5] (by kernel_rfl) (by kernel_rfl) (.cons [0, 1, 2] rfl (by kernel_rfl) ?_ .nil)
  refine At.buildSlice (xs := [.tmp 25]) rfl rfl el27 sz9 ze9 (by intro v hv; simp only [List.mem_cons, List.not_mem_nil, or_false] at hv; rcases hv with rfl <;> first | rfl | simp [Value.cells, Value.cells]) rfl (by decide) rfl (fun b3 w3 F3 => ?_)
  have q_hO_b3 : some b3 ≠ Value.ownBlock v := Own.neFresh hO F3
  have n_b0_b3 : b0 ≠ b3 := Nat.ne_of_lt (F3.lt hb0)
  have n_b1_b3 : b1 ≠ b3 := Nat.ne_of_lt (F3.lt hb1)
  have n_b2_b3 : b2 ≠ b3 := Nat.ne_of_lt (F3.lt hb2)
  have gb3 := Nat.le_trans hR.size (Nat.le_of_eq F3.eq.symm)
  replace hb0 := F3.old hb0
  replace hb1 := F3.old hb1
  replace hb2 := F3.old hb2
  replace hO := hO.fresh F3
  have hb3 : w3.heap[b3]? = some (.cells #[.string t.nm] 9) := F3.new
  replace hR := hR.freshF F3
  replace hB := Fr.below hR hB0 hB0.size hSge
  refine At.ops0 ?_
  refine At.wpcN (.cons rfl rfl rfl rfl (fun Lx => ?_) (.cons rfl rfl rfl rfl (fun Lx => ?_) (.cons rfl rfl rfl rfl (fun Lx => ?_) .nil))) ?_
  ·skip
   refine At.load rfl (Ld.ownCell ag64 hb1 rfl) rfl ?_
   refine At.ops0 ?_
   exact fun a ha => ⟨ha, rfl⟩
  ·skip
   refine At.nilCheck rfl rfl ?_
   refine At.ops0 ?_
   exact fun a ha => ⟨ha, rfl⟩
  ·skip
   refine At.fieldAddr rfl fo68_0 rfl ?_
   refine At.ops0 ?_
   exact fun a ha => ⟨ha, rfl⟩
  refine At.wpcE [6] (by kernel_rfl) (by kernel_rfl) (.cons [] rfl (by kernel_rfl) ?_ .nil)
  have hsz1 := hR.size
  refine At.call en20 rfl rfl (add_any b0 v ls (.slice (some ⟨b3, 0, none⟩) 1 1) ([t.nm]) w0 _ hB hbg gO hb0 hO (StrsAt.own (ss := [t.nm]) hb3 rfl (by decide) : StrsAt _ (.slice (some ⟨b3, 0, none⟩) 1 1) [t.nm]) (by first | (simp only [List.length_append, List.length_cons, List.length_nil] at hl ⊢; omega) | (rw [atomW_1 (by assumption)] at hl; simp only [List.length_append, List.length_cons, List.length_nil] at hl ⊢; omega) | (rw [atomW_2 (by assumption)] at hl; simp only [List.length_append, List.length_cons, List.length_nil] at hl ⊢; omega) | (rw [atomW_3 (by assumption)] at hl; simp only [List.length_append, List.length_cons, List.length_nil] at hl ⊢; omega) | (rw [atomW_4 (by assumption)] at hl; simp only [List.length_append, List.length_cons, List.length_nil] at hl ⊢; omega) | (rw [atomW_11 (by assumption)] at hl; simp only [List.length_append, List.length_cons, List.length_nil] at hl ⊢; omega) | (rw [atomW_read (by assumption) (by assumption)] at hl; simp only [List.length_append, List.length_cons, List.length_nil] at hl ⊢; omega))) (fun e w4 hR' => ?_)
  obtain ⟨va1, rfl, hb0', hO1, hF1, hMn1⟩ := hR'
  refine ⟨_, rfl, ?_⟩
  have nn_b1 : ¬ (b1 = b0 ∨ some b1 = Value.ownBlock v) := fun e => e.elim (Ne.symm n_b0_b1) (hO.neT hb1 rfl)
  replace hb1 := hF1.old _ _ nn_b1 hb1
  have nn_b2 : ¬ (b2 = b0 ∨ some b2 = Value.ownBlock v) := fun e => e.elim (Ne.symm n_b0_b2) (hO.neT hb2 rfl)
  replace hb2 := hF1.old _ _ nn_b2 hb2
  have nn_b3 : ¬ (b3 = b0 ∨ some b3 = Value.ownBlock v) := fun e => e.elim (Ne.symm n_b0_b3) q_hO_b3
  replace hb3 := hF1.old _ _ nn_b3 hb3
  replace hb0 := hb0'
  have ghO1 := hMn1.ge (Nat.le_trans hB0.size hR.size) gO
  replace hR := Fr.then hR hF1 (ws_sub hM)
  replace hM := Moved.then hM (Nat.le_trans (Nat.le_refl _) hsz1) hMn1
  replace hB := Fr.below hR hB0 hB0.size hSge
  refine At.ops0 ?_
  refine At.wpcN .nil ?_
  refine At.wpcZ ?_
  refine At.inN ?_
  refine At.doneN (ResV.nil) ?_
  have hq : (ls ++ [t.nm]) = ls ++ atomW t := by rw [atomW_1 hc1']
  exact ⟨va1, rfl, hb0, hq ▸ hO1, hR, hM⟩
 ·skip
  have hc1' := of_decide_eq_false hc1
  refine At.seq ?_
  refine At.region ?_
  refine At.fieldAddr rfl fo33_0 rfl ?_
  refine At.load rfl (Ld.ownCell ag3 hb2 (ht).c0) rfl ?_
  refine At.eqI rfl rfl rfl ?_
  refine At.assign rfl rfl ?_
  refine At.ops0 ?_
  refine At.thenN ?_
  refine At.cond (b := decide (t.k = 2)) rfl (fun hc2 => ?_) (fun hc2 => ?_)
  ·skip
   have hc2' := of_decide_eq_true hc2
   have hk2 : t.k = 2 := hc2'
   refine At.drawG (n := 8) mixed (by kernel_rfl) rfl (PanicOk.block PanicOk.body) ?_
   have hR := Fr.drewF hR
   have hB := Below.drewB hB
   have hb0 : _ := (show w2.drew.heap[b0]? = _ from hb0)
   have hb1 : _ := (show w2.drew.heap[b1]? = _ from hb1)
   have hb2 : _ := (show w2.drew.heap[b2]? = _ from hb2)
   have hO := hO.drew
   refine At.wpcS (i := 0) (d := 32) (.pointer (some ⟨b0, 0, none⟩)) (by kernel_rfl) rfl rfl rfl (fun Lx => ?_) ?_
   ·skip
    refine At.load rfl (Ld.ownCell ag64 hb1 rfl) rfl ?_
    refine At.ops0 ?_
    exact fun a ha => ⟨ha, rfl⟩
   refine At.wpcS (i := 1) (d := 33) (.pointer (some ⟨b0, 0, none⟩)) (by kernel_rfl) rfl rfl rfl (fun Lx => ?_) ?_
   ·skip
    refine At.nilCheck rfl rfl ?_
    refine At.ops0 ?_
    exact fun a ha => ⟨ha, rfl⟩
   refine At.wpcS (i := 2) (d := 34) (.pointer (some ⟨b0, 0 + 0, none⟩)) (by kernel_rfl) rfl rfl rfl (fun Lx => ?_) ?_
   ·skip
    refine At.fieldAddr rfl fo68_0 rfl ?_
    refine At.ops0 ?_
    exact fun a ha => ⟨ha, rfl⟩
   refine At.wpcS (i := 3) (d := 35) (.pointer (some ⟨b2, 0 + 4, none⟩)) (by kernel_rfl) rfl rfl rfl (fun Lx => ?_) ?_
   ·skip
    refine At.fieldAddr rfl fo33_4 rfl ?_
    refine At.ops0 ?_
    exact fun a ha => ⟨ha, rfl⟩
   refine At.wpcS (i := 4) (d := 36) (.int .i64 t.n) (by kernel_rfl) rfl rfl rfl (fun Lx => ?_) ?_
   ·skip
    refine At.load rfl (Ld.ownCell ag3 hb2 (ht).c4) rfl ?_
    refine At.ops0 ?_
    exact fun a ha => ⟨ha, rfl⟩
   refine At.wpcE [5] (by kernel_rfl) (by kernel_rfl) (.cons [0, 1, 2] rfl (by kernel_rfl) ?_ .nil)
   refine At.call en79 rfl rfl (itoa_any t.n _ (hr.n2 hk2) hz (tab_keep htab hB)) (fun e w5 hR' => ?_)
   obtain ⟨rfl, hbl1⟩ := hR'
   refine ⟨_, rfl, ?_⟩
   replace hb0 := Below.old hbl1 hb0
   replace hb1 := Below.old hbl1 hb1
   replace hb2 := Below.old hbl1 hb2
   replace hO := hO.below hbl1
   replace hR := hR.callF hbl1
   replace hB := Fr.below hR hB0 hB0.size hSge
   refine At.ops0 ?_
   refine At.wpcN (.cons rfl rfl rfl rfl (fun Lx => ?_) (.cons rfl rfl rfl rfl (fun Lx => ?_) (.cons rfl rfl rfl rfl (fun Lx => ?_) .nil))) ?_
   ·skip
    refine At.load rfl (Ld.ownCell ag64 hb1 rfl) rfl ?_
    refine At.ops0 ?_
    exact fun a ha => ⟨ha, rfl⟩
   ·skip
    refine At.nilCheck rfl rfl ?_
    refine At.ops0 ?_
    exact fun a ha => ⟨ha, rfl⟩
   ·skip
    refine At.fieldAddr rfl fo68_0 rfl ?_
    refine At.ops0 ?_
    exact fun a ha => ⟨ha, rfl⟩
   refine At.wpcE [6] (by kernel_rfl) (by kernel_rfl) (.cons [0, 1, 2] rfl (by kernel_rfl) ?_ .nil)
   refine At.buildSlice (xs := [.tmp 37]) rfl rfl el27 sz9 ze9 (by intro v hv; simp only [List.mem_cons, List.not_mem_nil, or_false] at hv; rcases hv with rfl <;> first | rfl | simp [Value.cells, Value.cells]) rfl (by decide) rfl (fun b4 w6 F4 => ?_)
   have q_hO_b4 : some b4 ≠ Value.ownBlock v := Own.neFresh hO F4
   have n_b0_b4 : b0 ≠ b4 := Nat.ne_of_lt (F4.lt hb0)
   have n_b1_b4 : b1 ≠ b4 := Nat.ne_of_lt (F4.lt hb1)
   have n_b2_b4 : b2 ≠ b4 := Nat.ne_of_lt (F4.lt hb2)
   have gb4 := Nat.le_trans hR.size (Nat.le_of_eq F4.eq.symm)
   replace hb0 := F4.old hb0
   replace hb1 := F4.old hb1
   replace hb2 := F4.old hb2
   replace hO := hO.fresh F4
   have hb4 : w6.heap[b4]? = some (.cells #[.string (itoaW t.n)] 9) := F4.new
   replace hR := hR.freshF F4
   replace hB := Fr.below hR hB0 hB0.size hSge
   refine At.ops0 ?_
   refine At.wpcN (.cons rfl rfl rfl rfl (fun Lx => ?_) (.cons rfl rfl rfl rfl (fun Lx => ?_) (.cons rfl rfl rfl rfl (fun Lx => ?_) .nil))) ?_
   ·skip
    refine At.load rfl (Ld.ownCell ag64 hb1 rfl) rfl ?_
    refine At.ops0 ?_
    exact fun a ha => ⟨ha, rfl⟩
   ·skip
    refine At.nilCheck rfl rfl ?_
    refine At.ops0 ?_
    exact fun a ha => ⟨ha, rfl⟩
   ·skip
    refine At.fieldAddr rfl fo68_0 rfl ?_
    refine At.ops0 ?_
    exact fun a ha => ⟨ha, rfl⟩
   refine At.wpcE [7] (by kernel_rfl) (by kernel_rfl) (.cons [] rfl (by kernel_rfl) ?_ .nil)
   have hsz2 := hR.size
   refine At.call en20 rfl rfl (add_any b0 v ls (.slice (some ⟨b4, 0, none⟩) 1 1) ([(itoaW t.n)]) w0 _ hB hbg gO hb0 hO (StrsAt.own (ss := [(itoaW t.n)]) hb4 rfl (by decide) : StrsAt _ (.slice (some ⟨b4, 0, none⟩) 1 1) [(itoaW t.n)]) (by first | (simp only [List.length_append, List.length_cons, List.length_nil] at hl ⊢; omega) | (rw [atomW_1 (by assumption)] at hl; simp only [List.length_append, List.length_cons, List.length_nil] at hl ⊢; omega) | (rw [atomW_2 (by assumption)] at hl; simp only [List.length_append, List.length_cons, List.length_nil] at hl ⊢; omega) | (rw [atomW_3 (by assumption)] at hl; simp only [List.length_append, List.length_cons, List.length_nil] at hl ⊢; omega) | (rw [atomW_4 (by assumption)] at hl; simp only [List.length_append, List.length_cons, List.length_nil] at hl ⊢; omega) | (rw [atomW_11 (by assumption)] at hl; simp only [List.length_append, List.length_cons, List.length_nil] at hl ⊢; omega) | (rw [atomW_read (by assumption) (by assumption)] at hl; simp only [List.length_append, List.length_cons, List.length_nil] at hl ⊢; omega))) (fun e w7 hR' => ?_)
   obtain ⟨va2, rfl, hb0', hO2, hF2, hMn2⟩ := hR'
   refine ⟨_, rfl, ?_⟩
   have nn_b1 : ¬ (b1 = b0 ∨ some b1 = Value.ownBlock v) := fun e => e.elim (Ne.symm n_b0_b1) (hO.neT hb1 rfl)
   replace hb1 := hF2.old _ _ nn_b1 hb1
   have nn_b2 : ¬ (b2 = b0 ∨ some b2 = Value.ownBlock v) := fun e => e.elim (Ne.symm n_b0_b2) (hO.neT hb2 rfl)
   replace hb2 := hF2.old _ _ nn_b2 hb2
   have nn_b4 : ¬ (b4 = b0 ∨ some b4 = Value.ownBlock v) := fun e => e.elim (Ne.symm n_b0_b4) q_hO_b4
   replace hb4 := hF2.old _ _ nn_b4 hb4
   replace hb0 := hb0'
   have ghO2 := hMn2.ge (Nat.le_trans hB0.size hR.size) gO
   replace hR := Fr.then hR hF2 (ws_sub hM)
   replace hM := Moved.then hM (Nat.le_trans (Nat.le_refl _) hsz2) hMn2
   replace hB := Fr.below hR hB0 hB0.size hSge
   refine At.ops0 ?_
   refine At.wpcN .nil ?_
   refine At.wpcZ ?_
   refine At.inN ?_
   refine At.doneN (ResV.nil) ?_
   have hq : (ls ++ [(itoaW t.n)]) = ls ++ atomW t := by rw [atomW_2 hc2']
   exact ⟨va2, rfl, hb0, hq ▸ hO2, hR, hM⟩
  ·skip
   have hc2' := of_decide_eq_false hc2
   refine At.seq ?_
   refine At.region ?_
   refine At.fieldAddr rfl fo33_0 rfl ?_
   refine At.load rfl (Ld.ownCell ag3 hb2 (ht).c0) rfl ?_
   refine At.eqI rfl rfl rfl ?_
   refine At.assign rfl rfl ?_
   refine At.ops0 ?_
   refine At.thenN ?_
   refine At.cond (b := decide (t.k = 3)) rfl (fun hc3 => ?_) (fun hc3 => ?_)
   ·skip
    have hc3' := of_decide_eq_true hc3
    have hk3 : t.k = 3 := hc3'
    obtain ⟨bn, hbn, hbl⟩ : ∃ bn : Nat, t.n = (bn : Int) ∧ bn < 2 := by rcases hr.n3 hk3 with h | h; exact ⟨0, h, by decide⟩; exact ⟨1, h, by decide⟩
    refine At.drawG (n := 10) mixed (by kernel_rfl) rfl (PanicOk.block PanicOk.body) ?_
    have hR := Fr.drewF hR
    have hB := Below.drewB hB
    have hb0 : _ := (show w2.drew.heap[b0]? = _ from hb0)
    have hb1 : _ := (show w2.drew.heap[b1]? = _ from hb1)
    have hb2 : _ := (show w2.drew.heap[b2]? = _ from hb2)
    have hO := hO.drew
    refine At.wpcS (i := 0) (d := 44) (.pointer (some ⟨b0, 0, none⟩)) (by kernel_rfl) rfl rfl rfl (fun Lx => ?_) ?_
    ·skip
     refine At.load rfl (Ld.ownCell ag64 hb1 rfl) rfl ?_
     refine At.ops0 ?_
     exact fun a ha => ⟨ha, rfl⟩
    refine At.wpcS (i := 1) (d := 45) (.pointer (some ⟨b0, 0, none⟩)) (by kernel_rfl) rfl rfl rfl (fun Lx => ?_) ?_
    ·skip
     refine At.nilCheck rfl rfl ?_
     refine At.ops0 ?_
     exact fun a ha => ⟨ha, rfl⟩
    refine At.wpcS (i := 2) (d := 46) (.pointer (some ⟨b0, 0 + 0, none⟩)) (by kernel_rfl) rfl rfl rfl (fun Lx => ?_) ?_
    ·skip
     refine At.fieldAddr rfl fo68_0 rfl ?_
     refine At.ops0 ?_
     exact fun a ha => ⟨ha, rfl⟩
    refine At.wpcS (i := 4) (d := 48) (.pointer (some ⟨b2, 0 + 4, none⟩)) (by kernel_rfl) rfl rfl rfl (fun Lx => ?_) ?_
    ·skip
     refine At.fieldAddr rfl fo33_4 rfl ?_
     refine At.ops0 ?_
     exact fun a ha => ⟨ha, rfl⟩
    refine At.wpcS (i := 5) (d := 49) (.int .i64 (bn : Int)) (by kernel_rfl) rfl rfl rfl (fun Lx => ?_) ?_
    ·skip
     refine At.load rfl (Ld.ownCell ag3 hb2 (ht).c4) rfl ?_
     refine At.set (d := 49) (u := .int .i64 (bn : Int)) rfl (congrArg (Value.int .i64) hbn) ?_
     refine At.ops0 ?_
     exact fun a ha => ⟨Is.dup ha, rfl⟩
    refine At.wpcE [3] (by kernel_rfl) (by kernel_rfl) (.cons [0, 1, 2, 4, 5] rfl (by kernel_rfl) ?_ .nil)
    refine At.buildSlice (xs := [.const (.string (⟨#[102, 97, 108, 115, 101]⟩ : ByteArray)), .const (.string (⟨#[116, 114, 117, 101]⟩ : ByteArray))]) rfl rfl el27 sz9 ze9 (by intro v hv; simp only [List.mem_cons, List.not_mem_nil, or_false] at hv; rcases hv with rfl | rfl <;> first | rfl | simp [Value.cells, Value.cells]) rfl (by decide) rfl (fun b5 w8 F5 => ?_)
    have q_hO_b5 : some b5 ≠ Value.ownBlock v := Own.neFresh hO F5
    have n_b0_b5 : b0 ≠ b5 := Nat.ne_of_lt (F5.lt hb0)
    have n_b1_b5 : b1 ≠ b5 := Nat.ne_of_lt (F5.lt hb1)
    have n_b2_b5 : b2 ≠ b5 := Nat.ne_of_lt (F5.lt hb2)
    have gb5 := Nat.le_trans hR.size (Nat.le_of_eq F5.eq.symm)
    replace hb0 := F5.old hb0
    replace hb1 := F5.old hb1
    replace hb2 := F5.old hb2
    replace hO := hO.fresh F5
    have hb5 : w8.heap[b5]? = some (.cells #[.string (⟨#[102, 97, 108, 115, 101]⟩ : ByteArray), .string (⟨#[116, 114, 117, 101]⟩ : ByteArray)] 9) := F5.new
    replace hR := hR.freshF F5
    replace hB := Fr.below hR hB0 hB0.size hSge
    refine At.ops0 ?_
    refine At.wpcN (.cons rfl rfl rfl rfl (fun Lx => ?_) (.cons rfl rfl rfl rfl (fun Lx => ?_) (.cons rfl rfl rfl rfl (fun Lx => ?_) (.cons rfl rfl rfl rfl (fun Lx => ?_) (.cons rfl rfl rfl rfl (fun Lx => ?_) .nil))))) ?_
    ·skip
     refine At.load rfl (Ld.ownCell ag64 hb1 rfl) rfl ?_
     refine At.ops0 ?_
     exact fun a ha => ⟨ha, rfl⟩
    ·skip
     refine At.nilCheck rfl rfl ?_
     refine At.ops0 ?_
     exact fun a ha => ⟨ha, rfl⟩
    ·skip
     refine At.fieldAddr rfl fo68_0 rfl ?_
     refine At.ops0 ?_
     exact fun a ha => ⟨ha, rfl⟩
    ·skip
     refine At.fieldAddr rfl fo33_4 rfl ?_
     refine At.ops0 ?_
     exact fun a ha => ⟨ha, rfl⟩
    ·skip
     refine At.load rfl (Ld.ownCell ag3 hb2 (ht).c4) rfl ?_
     refine At.set (d := 49) (u := .int .i64 (bn : Int)) rfl (congrArg (Value.int .i64) hbn) ?_
     refine At.ops0 ?_
     exact fun a ha => ⟨Is.dup ha, rfl⟩
    obtain ⟨u1, hu1⟩ := some_of_lt (l := [(⟨#[102, 97, 108, 115, 101]⟩ : ByteArray), (⟨#[116, 114, 117, 101]⟩ : ByteArray)]) (i := bn) (by omega)
    refine At.wpcS (i := 6) (d := 50) (.pointer (some ⟨vBlock (.slice (some ⟨b5, 0, none⟩) 2 2), vOff (.slice (some ⟨b5, 0, none⟩) 2 2) + bn * 1, none⟩)) (by kernel_rfl) rfl rfl rfl (fun Lx => ?_) ?_
    ·skip
     refine At.indexAddr (i := bn) rfl rfl ((StrsAt.own (ss := [(⟨#[102, 97, 108, 115, 101]⟩ : ByteArray), (⟨#[116, 114, 117, 101]⟩ : ByteArray)]) hb5 rfl (by decide) : StrsAt _ (.slice (some ⟨b5, 0, none⟩) 2 2) [(⟨#[102, 97, 108, 115, 101]⟩ : ByteArray), (⟨#[116, 114, 117, 101]⟩ : ByteArray)])).ok (lt_of_some hu1) el27 sz9 rfl ?_
     refine At.ops0 ?_
     exact fun a ha => ⟨ha, rfl⟩
    refine At.wpcS (i := 7) (d := 51) (.string u1) (by kernel_rfl) rfl rfl rfl (fun Lx => ?_) ?_
    ·skip
     refine At.load rfl (Ld.cell ag9 (cell_keep (((StrsAt.own (ss := [(⟨#[102, 97, 108, 115, 101]⟩ : ByteArray), (⟨#[116, 114, 117, 101]⟩ : ByteArray)]) hb5 rfl (by decide) : StrsAt _ (.slice (some ⟨b5, 0, none⟩) 2 2) [(⟨#[102, 97, 108, 115, 101]⟩ : ByteArray), (⟨#[116, 114, 117, 101]⟩ : ByteArray)])).get hu1) (Below.refl _ _))) rfl ?_
     refine At.ops0 ?_
     exact fun a ha => ⟨ha, rfl⟩
    refine At.wpcE [8] (by kernel_rfl) (by kernel_rfl) (.cons [0, 1, 2] rfl (by kernel_rfl) ?_ .nil)
    refine At.buildSlice (xs := [.tmp 51]) rfl rfl el27 sz9 ze9 (by intro v hv; simp only [List.mem_cons, List.not_mem_nil, or_false] at hv; rcases hv with rfl <;> first | rfl | simp [Value.cells, Value.cells]) rfl (by decide) rfl (fun b6 w9 F6 => ?_)
    have q_hO_b6 : some b6 ≠ Value.ownBlock v := Own.neFresh hO F6
    have n_b0_b6 : b0 ≠ b6 := Nat.ne_of_lt (F6.lt hb0)
    have n_b1_b6 : b1 ≠ b6 := Nat.ne_of_lt (F6.lt hb1)
    have n_b2_b6 : b2 ≠ b6 := Nat.ne_of_lt (F6.lt hb2)
    have n_b5_b6 : b5 ≠ b6 := Nat.ne_of_lt (F6.lt hb5)
    have gb6 := Nat.le_trans hR.size (Nat.le_of_eq F6.eq.symm)
    replace hb0 := F6.old hb0
    replace hb1 := F6.old hb1
    replace hb2 := F6.old hb2
    replace hb5 := F6.old hb5
    replace hO := hO.fresh F6
    have hb6 : w9.heap[b6]? = some (.cells #[.string u1] 9) := F6.new
    replace hR := hR.freshF F6
    replace hB := Fr.below hR hB0 hB0.size hSge
    refine At.ops0 ?_
    refine At.wpcN (.cons rfl rfl rfl rfl (fun Lx => ?_) (.cons rfl rfl rfl rfl (fun Lx => ?_) (.cons rfl rfl rfl rfl (fun Lx => ?_) .nil))) ?_
    ·skip
     refine At.load rfl (Ld.ownCell ag64 hb1 rfl) rfl ?_
     refine At.ops0 ?_
     exact fun a ha => ⟨ha, rfl⟩
    ·skip
     refine At.nilCheck rfl rfl ?_
     refine At.ops0 ?_
     exact fun a ha => ⟨ha, rfl⟩
    ·skip
     refine At.fieldAddr rfl fo68_0 rfl ?_
     refine At.ops0 ?_
     exact fun a ha => ⟨ha, rfl⟩
    refine At.wpcE [9] (by kernel_rfl) (by kernel_rfl) (.cons [] rfl (by kernel_rfl) ?_ .nil)
    have hsz3 := hR.size
    refine At.call en20 rfl rfl (add_any b0 v ls (.slice (some ⟨b6, 0, none⟩) 1 1) ([u1]) w0 _ hB hbg gO hb0 hO (StrsAt.own (ss := [u1]) hb6 rfl (by decide) : StrsAt _ (.slice (some ⟨b6, 0, none⟩) 1 1) [u1]) (by first | (simp only [List.length_append, List.length_cons, List.length_nil] at hl ⊢; omega) | (rw [atomW_1 (by assumption)] at hl; simp only [List.length_append, List.length_cons, List.length_nil] at hl ⊢; omega) | (rw [atomW_2 (by assumption)] at hl; simp only [List.length_append, List.length_cons, List.length_nil] at hl ⊢; omega) | (rw [atomW_3 (by assumption)] at hl; simp only [List.length_append, List.length_cons, List.length_nil] at hl ⊢; omega) | (rw [atomW_4 (by assumption)] at hl; simp only [List.length_append, List.length_cons, List.length_nil] at hl ⊢; omega) | (rw [atomW_11 (by assumption)] at hl; simp only [List.length_append, List.length_cons, List.length_nil] at hl ⊢; omega) | (rw [atomW_read (by assumption) (by assumption)] at hl; simp only [List.length_append, List.length_cons, List.length_nil] at hl ⊢; omega))) (fun e w10 hR' => ?_)
    obtain ⟨va3, rfl, hb0', hO3, hF3, hMn3⟩ := hR'
    refine ⟨_, rfl, ?_⟩
    have nn_b1 : ¬ (b1 = b0 ∨ some b1 = Value.ownBlock v) := fun e => e.elim (Ne.symm n_b0_b1) (hO.neT hb1 rfl)
    replace hb1 := hF3.old _ _ nn_b1 hb1
    have nn_b2 : ¬ (b2 = b0 ∨ some b2 = Value.ownBlock v) := fun e => e.elim (Ne.symm n_b0_b2) (hO.neT hb2 rfl)
    replace hb2 := hF3.old _ _ nn_b2 hb2
    have nn_b5 : ¬ (b5 = b0 ∨ some b5 = Value.ownBlock v) := fun e => e.elim (Ne.symm n_b0_b5) q_hO_b5
    replace hb5 := hF3.old _ _ nn_b5 hb5
    have nn_b6 : ¬ (b6 = b0 ∨ some b6 = Value.ownBlock v) := fun e => e.elim (Ne.symm n_b0_b6) q_hO_b6
    replace hb6 := hF3.old _ _ nn_b6 hb6
    replace hb0 := hb0'
    have ghO3 := hMn3.ge (Nat.le_trans hB0.size hR.size) gO
    replace hR := Fr.then hR hF3 (ws_sub hM)
    replace hM := Moved.then hM (Nat.le_trans (Nat.le_refl _) hsz3) hMn3
    replace hB := Fr.below hR hB0 hB0.size hSge
    refine At.ops0 ?_
    refine At.wpcN .nil ?_
    refine At.wpcZ ?_
    refine At.inN ?_
    refine At.doneN (ResV.nil) ?_
    have hq : (ls ++ [u1]) = ls ++ atomW t := by rw [atomW_3 hc3']; have hu' := hu1; congr 2; rcases hr.n3 hc3' with h | h <;> (rw [h] at hbn ⊢; (first | (have : bn = 0 := by omega) | (have : bn = 1 := by omega)); subst this; simpa using hu'.symm)
    exact ⟨va3, rfl, hb0, hq ▸ hO3, hR, hM⟩
   ·skip
    have hc3' := of_decide_eq_false hc3
    refine At.seq ?_
    refine At.region ?_
    refine At.fieldAddr rfl fo33_0 rfl ?_
    refine At.load rfl (Ld.ownCell ag3 hb2 (ht).c0) rfl ?_
    refine At.eqI rfl rfl rfl ?_
    refine At.assign rfl rfl ?_
    refine At.ops0 ?_
    refine At.thenN ?_
    refine At.cond (b := decide (t.k = 4)) rfl (fun hc4 => ?_) (fun hc4 => ?_)
    ·skip
     have hc4' := of_decide_eq_true hc4
     refine At.region ?_
     refine At.load rfl (Ld.ownCell ag64 hb1 rfl) rfl ?_
     refine At.nilCheck rfl rfl ?_
     refine At.fieldAddr rfl fo68_0 rfl ?_
     refine At.buildSlice (xs := [.const (.string (⟨#[40]⟩ : ByteArray)), .const (.string (⟨#[41]⟩ : ByteArray))]) rfl rfl el27 sz9 ze9 (by intro v hv; simp only [List.mem_cons, List.not_mem_nil, or_false] at hv; rcases hv with rfl | rfl <;> first | rfl | simp [Value.cells, Value.cells]) rfl (by decide) rfl (fun b7 w11 F7 => ?_)
     have q_hO_b7 : some b7 ≠ Value.ownBlock v := Own.neFresh hO F7
     have n_b0_b7 : b0 ≠ b7 := Nat.ne_of_lt (F7.lt hb0)
     have n_b1_b7 : b1 ≠ b7 := Nat.ne_of_lt (F7.lt hb1)
     have n_b2_b7 : b2 ≠ b7 := Nat.ne_of_lt (F7.lt hb2)
     have gb7 := Nat.le_trans hR.size (Nat.le_of_eq F7.eq.symm)
     replace hb0 := F7.old hb0
     replace hb1 := F7.old hb1
     replace hb2 := F7.old hb2
     replace hO := hO.fresh F7
     have hb7 : w11.heap[b7]? = some (.cells #[.string (⟨#[40]⟩ : ByteArray), .string (⟨#[41]⟩ : ByteArray)] 9) := F7.new
     replace hR := hR.freshF F7
     replace hB := Fr.below hR hB0 hB0.size hSge
     have hsz4 := hR.size
     refine At.call en20 rfl rfl (add_any b0 v ls (.slice (some ⟨b7, 0, none⟩) 2 2) ([(⟨#[40]⟩ : ByteArray), (⟨#[41]⟩ : ByteArray)]) w0 _ hB hbg gO hb0 hO (StrsAt.own (ss := [(⟨#[40]⟩ : ByteArray), (⟨#[41]⟩ : ByteArray)]) hb7 rfl (by decide) : StrsAt _ (.slice (some ⟨b7, 0, none⟩) 2 2) [(⟨#[40]⟩ : ByteArray), (⟨#[41]⟩ : ByteArray)]) (by first | (simp only [List.length_append, List.length_cons, List.length_nil] at hl ⊢; omega) | (rw [atomW_1 (by assumption)] at hl; simp only [List.length_append, List.length_cons, List.length_nil] at hl ⊢; omega) | (rw [atomW_2 (by assumption)] at hl; simp only [List.length_append, List.length_cons, List.length_nil] at hl ⊢; omega) | (rw [atomW_3 (by assumption)] at hl; simp only [List.length_append, List.length_cons, List.length_nil] at hl ⊢; omega) | (rw [atomW_4 (by assumption)] at hl; simp only [List.length_append, List.length_cons, List.length_nil] at hl ⊢; omega) | (rw [atomW_11 (by assumption)] at hl; simp only [List.length_append, List.length_cons, List.length_nil] at hl ⊢; omega) | (rw [atomW_read (by assumption) (by assumption)] at hl; simp only [List.length_append, List.length_cons, List.length_nil] at hl ⊢; omega))) (fun e w12 hR' => ?_)
     obtain ⟨va4, rfl, hb0', hO4, hF4, hMn4⟩ := hR'
     refine ⟨_, rfl, ?_⟩
     have nn_b1 : ¬ (b1 = b0 ∨ some b1 = Value.ownBlock v) := fun e => e.elim (Ne.symm n_b0_b1) (hO.neT hb1 rfl)
     replace hb1 := hF4.old _ _ nn_b1 hb1
     have nn_b2 : ¬ (b2 = b0 ∨ some b2 = Value.ownBlock v) := fun e => e.elim (Ne.symm n_b0_b2) (hO.neT hb2 rfl)
     replace hb2 := hF4.old _ _ nn_b2 hb2
     have nn_b7 : ¬ (b7 = b0 ∨ some b7 = Value.ownBlock v) := fun e => e.elim (Ne.symm n_b0_b7) q_hO_b7
     replace hb7 := hF4.old _ _ nn_b7 hb7
     replace hb0 := hb0'
     have ghO4 := hMn4.ge (Nat.le_trans hB0.size hR.size) gO
     replace hR := Fr.then hR hF4 (ws_sub hM)
     replace hM := Moved.then hM (Nat.le_trans (Nat.le_refl _) hsz4) hMn4
     replace hB := Fr.below hR hB0 hB0.size hSge
     refine At.ops0 ?_
     refine At.inN ?_
     refine At.doneN (ResV.nil) ?_
     have hq : (ls ++ [(⟨#[40]⟩ : ByteArray), (⟨#[41]⟩ : ByteArray)]) = ls ++ atomW t := by rw [atomW_4 hc4']
     exact ⟨va4, rfl, hb0, hq ▸ hO4, hR, hM⟩
    ·skip
     have hc4' := of_decide_eq_false hc4
     refine At.seq ?_
     refine At.region ?_
     refine At.fieldAddr rfl fo33_0 rfl ?_
     refine At.load rfl (Ld.ownCell ag3 hb2 (ht).c0) rfl ?_
     refine At.eqI rfl rfl rfl ?_
     refine At.move rfl rfl ?_
     refine At.cases (decide (t.k = 10)) (fun hg1 => ?_) (fun hg1 => ?_)
     ·skip
      refine At.set (d := 67) (u := .bool true) rfl (congrArg Value.bool hg1) ?_
      have hg1' := of_decide_eq_true hg1
      refine At.yes rfl rfl rfl rfl ?_
      refine At.fieldAddr rfl fo33_2 rfl ?_
      refine At.yes rfl rfl rfl rfl ?_
      refine At.load rfl (Ld.ownCell ag9 hb2 (ht).c2) rfl ?_
      refine At.yes rfl rfl rfl rfl ?_
      refine At.eqS rfl rfl rfl ?_
      refine At.pickT rfl rfl rfl ?_
      refine At.assign rfl rfl ?_
      refine At.ops0 ?_
      refine At.thenN ?_
      refine At.cond (b := decide (t.nm = (⟨#[114, 101, 97, 100]⟩ : ByteArray))) rfl (fun hc5 => ?_) (fun hc5 => ?_)
      ·skip
       have hc5' := of_decide_eq_true hc5
       refine At.region ?_
       refine At.load rfl (Ld.ownCell ag64 hb1 rfl) rfl ?_
       refine At.nilCheck rfl rfl ?_
       refine At.fieldAddr rfl fo68_0 rfl ?_
       refine At.buildSlice (xs := [.const (.string (⟨#[114, 101, 97, 100]⟩ : ByteArray)), .const (.string (⟨#[40]⟩ : ByteArray)), .const (.string (⟨#[41]⟩ : ByteArray))]) rfl rfl el27 sz9 ze9 (by intro v hv; simp only [List.mem_cons, List.not_mem_nil, or_false] at hv; rcases hv with rfl | rfl | rfl <;> first | rfl | simp [Value.cells, Value.cells]) rfl (by decide) rfl (fun b8 w13 F8 => ?_)
       have q_hO_b8 : some b8 ≠ Value.ownBlock v := Own.neFresh hO F8
       have n_b0_b8 : b0 ≠ b8 := Nat.ne_of_lt (F8.lt hb0)
       have n_b1_b8 : b1 ≠ b8 := Nat.ne_of_lt (F8.lt hb1)
       have n_b2_b8 : b2 ≠ b8 := Nat.ne_of_lt (F8.lt hb2)
       have gb8 := Nat.le_trans hR.size (Nat.le_of_eq F8.eq.symm)
       replace hb0 := F8.old hb0
       replace hb1 := F8.old hb1
       replace hb2 := F8.old hb2
       replace hO := hO.fresh F8
       have hb8 : w13.heap[b8]? = some (.cells #[.string (⟨#[114, 101, 97, 100]⟩ : ByteArray), .string (⟨#[40]⟩ : ByteArray), .string (⟨#[41]⟩ : ByteArray)] 9) := F8.new
       replace hR := hR.freshF F8
       replace hB := Fr.below hR hB0 hB0.size hSge
       have hsz5 := hR.size
       refine At.call en20 rfl rfl (add_any b0 v ls (.slice (some ⟨b8, 0, none⟩) 3 3) ([(⟨#[114, 101, 97, 100]⟩ : ByteArray), (⟨#[40]⟩ : ByteArray), (⟨#[41]⟩ : ByteArray)]) w0 _ hB hbg gO hb0 hO (StrsAt.own (ss := [(⟨#[114, 101, 97, 100]⟩ : ByteArray), (⟨#[40]⟩ : ByteArray), (⟨#[41]⟩ : ByteArray)]) hb8 rfl (by decide) : StrsAt _ (.slice (some ⟨b8, 0, none⟩) 3 3) [(⟨#[114, 101, 97, 100]⟩ : ByteArray), (⟨#[40]⟩ : ByteArray), (⟨#[41]⟩ : ByteArray)]) (by first | (simp only [List.length_append, List.length_cons, List.length_nil] at hl ⊢; omega) | (rw [atomW_1 (by assumption)] at hl; simp only [List.length_append, List.length_cons, List.length_nil] at hl ⊢; omega) | (rw [atomW_2 (by assumption)] at hl; simp only [List.length_append, List.length_cons, List.length_nil] at hl ⊢; omega) | (rw [atomW_3 (by assumption)] at hl; simp only [List.length_append, List.length_cons, List.length_nil] at hl ⊢; omega) | (rw [atomW_4 (by assumption)] at hl; simp only [List.length_append, List.length_cons, List.length_nil] at hl ⊢; omega) | (rw [atomW_11 (by assumption)] at hl; simp only [List.length_append, List.length_cons, List.length_nil] at hl ⊢; omega) | (rw [atomW_read (by assumption) (by assumption)] at hl; simp only [List.length_append, List.length_cons, List.length_nil] at hl ⊢; omega))) (fun e w14 hR' => ?_)
       obtain ⟨va5, rfl, hb0', hO5, hF5, hMn5⟩ := hR'
       refine ⟨_, rfl, ?_⟩
       have nn_b1 : ¬ (b1 = b0 ∨ some b1 = Value.ownBlock v) := fun e => e.elim (Ne.symm n_b0_b1) (hO.neT hb1 rfl)
       replace hb1 := hF5.old _ _ nn_b1 hb1
       have nn_b2 : ¬ (b2 = b0 ∨ some b2 = Value.ownBlock v) := fun e => e.elim (Ne.symm n_b0_b2) (hO.neT hb2 rfl)
       replace hb2 := hF5.old _ _ nn_b2 hb2
       have nn_b8 : ¬ (b8 = b0 ∨ some b8 = Value.ownBlock v) := fun e => e.elim (Ne.symm n_b0_b8) q_hO_b8
       replace hb8 := hF5.old _ _ nn_b8 hb8
       replace hb0 := hb0'
       have ghO5 := hMn5.ge (Nat.le_trans hB0.size hR.size) gO
       replace hR := Fr.then hR hF5 (ws_sub hM)
       replace hM := Moved.then hM (Nat.le_trans (Nat.le_refl _) hsz5) hMn5
       replace hB := Fr.below hR hB0 hB0.size hSge
       refine At.ops0 ?_
       refine At.inN ?_
       refine At.doneN (ResV.nil) ?_
       have hq : (ls ++ [(⟨#[114, 101, 97, 100]⟩ : ByteArray), (⟨#[40]⟩ : ByteArray), (⟨#[41]⟩ : ByteArray)]) = ls ++ atomW t := by rw [atomW_read hg1' hc5']
       exact ⟨va5, rfl, hb0, hq ▸ hO5, hR, hM⟩
      ·skip
       have hc5' := of_decide_eq_false hc5
       refine At.seq ?_
       refine At.region ?_
       refine At.fieldAddr rfl fo33_0 rfl ?_
       refine At.load rfl (Ld.ownCell ag3 hb2 (ht).c0) rfl ?_
       refine At.eqI rfl rfl rfl ?_
       refine At.assign rfl rfl ?_
       refine At.ops0 ?_
       refine At.thenN ?_
       refine At.cond (b := decide (t.k = 11)) rfl (fun hc6 => ?_) (fun hc6 => ?_)
       ·skip
        have hc6' := of_decide_eq_true hc6
        refine At.seq ?_
        refine At.drawG (n := 7) mixed (by kernel_rfl) rfl (PanicOk.then (PanicOk.block PanicOk.body)) ?_
        have hR := Fr.drewF hR
        have hB := Below.drewB hB
        have hb0 : _ := (show w2.drew.heap[b0]? = _ from hb0)
        have hb1 : _ := (show w2.drew.heap[b1]? = _ from hb1)
        have hb2 : _ := (show w2.drew.heap[b2]? = _ from hb2)
        have hO := hO.drew
        refine At.wpcS (i := 0) (d := 81) (.pointer (some ⟨b0, 0, none⟩)) (by kernel_rfl) rfl rfl rfl (fun Lx => ?_) ?_
        ·skip
         refine At.load rfl (Ld.ownCell ag64 hb1 rfl) rfl ?_
         refine At.ops0 ?_
         exact fun a ha => ⟨ha, rfl⟩
        refine At.wpcS (i := 1) (d := 82) (.pointer (some ⟨b0, 0, none⟩)) (by kernel_rfl) rfl rfl rfl (fun Lx => ?_) ?_
        ·skip
         refine At.nilCheck rfl rfl ?_
         refine At.ops0 ?_
         exact fun a ha => ⟨ha, rfl⟩
        refine At.wpcS (i := 2) (d := 83) (.pointer (some ⟨b0, 0 + 0, none⟩)) (by kernel_rfl) rfl rfl rfl (fun Lx => ?_) ?_
        ·skip
         refine At.fieldAddr rfl fo68_0 rfl ?_
         refine At.ops0 ?_
         exact fun a ha => ⟨ha, rfl⟩
        refine At.wpcS (i := 3) (d := 84) (.pointer (some ⟨b2, 0 + 2, none⟩)) (by kernel_rfl) rfl rfl rfl (fun Lx => ?_) ?_
        ·skip
         refine At.fieldAddr rfl fo33_2 rfl ?_
         refine At.ops0 ?_
         exact fun a ha => ⟨ha, rfl⟩
        refine At.wpcS (i := 4) (d := 85) (.string t.nm) (by kernel_rfl) rfl rfl rfl (fun Lx => ?_) ?_
        ·skip
         refine At.load rfl (Ld.ownCell ag9 hb2 (ht).c2) rfl ?_
         refine At.ops0 ?_
         exact fun a ha => ⟨ha, rfl⟩
        refine At.wpcE [5] (by kernel_rfl) (by kernel_rfl) (.cons [0, 1, 2] rfl (by kernel_rfl) ?_ .nil)
        refine At.buildSlice (xs := [.tmp 85, .const (.string (⟨#[40]⟩ : ByteArray))]) rfl rfl el27 sz9 ze9 (by intro v hv; simp only [List.mem_cons, List.not_mem_nil, or_false] at hv; rcases hv with rfl | rfl <;> first | rfl | simp [Value.cells, Value.cells]) rfl (by decide) rfl (fun b9 w15 F9 => ?_)
        have q_hO_b9 : some b9 ≠ Value.ownBlock v := Own.neFresh hO F9
        have n_b0_b9 : b0 ≠ b9 := Nat.ne_of_lt (F9.lt hb0)
        have n_b1_b9 : b1 ≠ b9 := Nat.ne_of_lt (F9.lt hb1)
        have n_b2_b9 : b2 ≠ b9 := Nat.ne_of_lt (F9.lt hb2)
        have gb9 := Nat.le_trans hR.size (Nat.le_of_eq F9.eq.symm)
        replace hb0 := F9.old hb0
        replace hb1 := F9.old hb1
        replace hb2 := F9.old hb2
        replace hO := hO.fresh F9
        have hb9 : w15.heap[b9]? = some (.cells #[.string t.nm, .string (⟨#[40]⟩ : ByteArray)] 9) := F9.new
        replace hR := hR.freshF F9
        replace hB := Fr.below hR hB0 hB0.size hSge
        refine At.ops0 ?_
        refine At.wpcN (.cons rfl rfl rfl rfl (fun Lx => ?_) (.cons rfl rfl rfl rfl (fun Lx => ?_) (.cons rfl rfl rfl rfl (fun Lx => ?_) .nil))) ?_
        ·skip
         refine At.load rfl (Ld.ownCell ag64 hb1 rfl) rfl ?_
         refine At.ops0 ?_
         exact fun a ha => ⟨ha, rfl⟩
        ·skip
         refine At.nilCheck rfl rfl ?_
         refine At.ops0 ?_
         exact fun a ha => ⟨ha, rfl⟩
        ·skip
         refine At.fieldAddr rfl fo68_0 rfl ?_
         refine At.ops0 ?_
         exact fun a ha => ⟨ha, rfl⟩
        refine At.wpcE [6] (by kernel_rfl) (by kernel_rfl) (.cons [] rfl (by kernel_rfl) ?_ .nil)
        have hsz6 := hR.size
        refine At.call en20 rfl rfl (add_any b0 v ls (.slice (some ⟨b9, 0, none⟩) 2 2) ([t.nm, (⟨#[40]⟩ : ByteArray)]) w0 _ hB hbg gO hb0 hO (StrsAt.own (ss := [t.nm, (⟨#[40]⟩ : ByteArray)]) hb9 rfl (by decide) : StrsAt _ (.slice (some ⟨b9, 0, none⟩) 2 2) [t.nm, (⟨#[40]⟩ : ByteArray)]) (by first | (simp only [List.length_append, List.length_cons, List.length_nil] at hl ⊢; omega) | (rw [atomW_1 (by assumption)] at hl; simp only [List.length_append, List.length_cons, List.length_nil] at hl ⊢; omega) | (rw [atomW_2 (by assumption)] at hl; simp only [List.length_append, List.length_cons, List.length_nil] at hl ⊢; omega) | (rw [atomW_3 (by assumption)] at hl; simp only [List.length_append, List.length_cons, List.length_nil] at hl ⊢; omega) | (rw [atomW_4 (by assumption)] at hl; simp only [List.length_append, List.length_cons, List.length_nil] at hl ⊢; omega) | (rw [atomW_11 (by assumption)] at hl; simp only [List.length_append, List.length_cons, List.length_nil] at hl ⊢; omega) | (rw [atomW_read (by assumption) (by assumption)] at hl; simp only [List.length_append, List.length_cons, List.length_nil] at hl ⊢; omega))) (fun e w16 hR' => ?_)
        obtain ⟨va6, rfl, hb0', hO6, hF6, hMn6⟩ := hR'
        refine ⟨_, rfl, ?_⟩
        have nn_b1 : ¬ (b1 = b0 ∨ some b1 = Value.ownBlock v) := fun e => e.elim (Ne.symm n_b0_b1) (hO.neT hb1 rfl)
        replace hb1 := hF6.old _ _ nn_b1 hb1
        have nn_b2 : ¬ (b2 = b0 ∨ some b2 = Value.ownBlock v) := fun e => e.elim (Ne.symm n_b0_b2) (hO.neT hb2 rfl)
        replace hb2 := hF6.old _ _ nn_b2 hb2
        have nn_b9 : ¬ (b9 = b0 ∨ some b9 = Value.ownBlock v) := fun e => e.elim (Ne.symm n_b0_b9) q_hO_b9
        replace hb9 := hF6.old _ _ nn_b9 hb9
        replace hb0 := hb0'
        have ghO6 := hMn6.ge (Nat.le_trans hB0.size hR.size) gO
        replace hR := Fr.then hR hF6 (ws_sub hM)
        replace hM := Moved.then hM (Nat.le_trans (Nat.le_refl _) hsz6) hMn6
        replace hB := Fr.below hR hB0 hB0.size hSge
        refine At.ops0 ?_
        refine At.wpcN .nil ?_
        refine At.wpcZ ?_
        refine At.thenN ?_
        refine At.seq ?_
        refine At.region ?_
        refine At.load rfl (Ld.ownCell ag64 hb1 rfl) rfl ?_
        refine At.fieldAddr rfl fo33_5 rfl ?_
        refine At.load rfl (Ld.ownCell ag24 hb2 (ht).c5) rfl ?_
        refine At.lenSl rfl ((ht).kidsAt).okL el24 rfl ?_
        refine At.makeFunc rfl rfl ?_
        have hsz7 := hR.size
        have nnc_b1 : ¬ (b1 = b0 ∨ some b1 = Value.ownBlock va6) := fun e => e.elim (Ne.symm n_b0_b1) (hO6.neT hb1 rfl)
        have nnc_b2 : ¬ (b2 = b0 ∨ some b2 = Value.ownBlock va6) := fun e => e.elim (Ne.symm n_b0_b2) (hO6.neT hb2 rfl)
        refine At.call en21 rfl rfl (between_any b0 va6 (ls ++ [t.nm, (⟨#[40]⟩ : ByteArray)]) t.kids.length (⟨#[44]⟩ : ByteArray) 80 [.pointer (some ⟨b1, 0, none⟩), .pointer (some ⟨b2, 0, none⟩)] (eK (eaL t.kids)) w0 _ hB hbg ghO6 hb0 hO6 (by omega) (by first | (simp only [List.length_append, List.length_cons, List.length_nil] at hl ⊢; omega) | (rw [atomW_1 (by assumption)] at hl; simp only [List.length_append, List.length_cons, List.length_nil] at hl ⊢; omega) | (rw [atomW_2 (by assumption)] at hl; simp only [List.length_append, List.length_cons, List.length_nil] at hl ⊢; omega) | (rw [atomW_3 (by assumption)] at hl; simp only [List.length_append, List.length_cons, List.length_nil] at hl ⊢; omega) | (rw [atomW_4 (by assumption)] at hl; simp only [List.length_append, List.length_cons, List.length_nil] at hl ⊢; omega) | (rw [atomW_11 (by assumption)] at hl; simp only [List.length_append, List.length_cons, List.length_nil] at hl ⊢; omega) | (rw [atomW_read (by assumption) (by assumption)] at hl; simp only [List.length_append, List.length_cons, List.length_nil] at hl ⊢; omega)) en80 (fun i v1 l1 w1 hi xB xg xF xM xb xO xl => by
         obtain ⟨u, hu⟩ := some_of_lt (l := t.kids) (i := i) (by omega)
         rw [eK_at hu] at xl ⊢
         exact kid1_any b0 v1 l1 w0 t b1 b2 i u w1 xB hbg xg xb xO ht (xF.old _ _ nnc_b1 hb1) (xF.old _ _ nnc_b2 hb2) n_b0_b1 n_b0_b2 n_b1_b2 hu (hke u (List.mem_of_getElem? hu)) xl)) (fun e w17 hR' => ?_)
        obtain ⟨va7, rfl, hb0', hO7, hF7, hMn7⟩ := hR'
        refine ⟨_, rfl, ?_⟩
        have nn_b1 : ¬ (b1 = b0 ∨ some b1 = Value.ownBlock va6) := fun e => e.elim (Ne.symm n_b0_b1) (hO6.neT hb1 rfl)
        replace hb1 := hF7.old _ _ nn_b1 hb1
        have nn_b2 : ¬ (b2 = b0 ∨ some b2 = Value.ownBlock va6) := fun e => e.elim (Ne.symm n_b0_b2) (hO6.neT hb2 rfl)
        replace hb2 := hF7.old _ _ nn_b2 hb2
        clear hb9
        replace hb0 := hb0'
        have ghO7 := hMn7.ge (Nat.le_trans hB0.size hR.size) ghO6
        replace hR := Fr.then hR hF7 (ws_sub hM)
        replace hM := Moved.then hM (Nat.le_trans (Nat.le_refl _) hsz7) hMn7
        replace hB := Fr.below hR hB0 hB0.size hSge
        refine At.ops0 ?_
        refine At.thenN ?_
        refine At.region ?_
        refine At.load rfl (Ld.ownCell ag64 hb1 rfl) rfl ?_
        refine At.nilCheck rfl rfl ?_
        refine At.fieldAddr rfl fo68_0 rfl ?_
        refine At.buildSlice (xs := [.const (.string (⟨#[41]⟩ : ByteArray))]) rfl rfl el27 sz9 ze9 (by intro v hv; simp only [List.mem_cons, List.not_mem_nil, or_false] at hv; rcases hv with rfl <;> first | rfl | simp [Value.cells, Value.cells]) rfl (by decide) rfl (fun b10 w18 F10 => ?_)
        have q_hO7_b10 : some b10 ≠ Value.ownBlock va7 := Own.neFresh hO7 F10
        have n_b0_b10 : b0 ≠ b10 := Nat.ne_of_lt (F10.lt hb0)
        have n_b1_b10 : b1 ≠ b10 := Nat.ne_of_lt (F10.lt hb1)
        have n_b2_b10 : b2 ≠ b10 := Nat.ne_of_lt (F10.lt hb2)
        have gb10 := Nat.le_trans hR.size (Nat.le_of_eq F10.eq.symm)
        replace hb0 := F10.old hb0
        replace hb1 := F10.old hb1
        replace hb2 := F10.old hb2
        replace hO7 := hO7.fresh F10
        have hb10 : w18.heap[b10]? = some (.cells #[.string (⟨#[41]⟩ : ByteArray)] 9) := F10.new
        replace hR := hR.freshF F10
        replace hB := Fr.below hR hB0 hB0.size hSge
        have hsz8 := hR.size
        refine At.call en20 rfl rfl (add_any b0 va7 ((ls ++ [t.nm, (⟨#[40]⟩ : ByteArray)]) ++ (btN (⟨#[44]⟩ : ByteArray) (eK (eaL t.kids)) t.kids.length)) (.slice (some ⟨b10, 0, none⟩) 1 1) ([(⟨#[41]⟩ : ByteArray)]) w0 _ hB hbg ghO7 hb0 hO7 (StrsAt.own (ss := [(⟨#[41]⟩ : ByteArray)]) hb10 rfl (by decide) : StrsAt _ (.slice (some ⟨b10, 0, none⟩) 1 1) [(⟨#[41]⟩ : ByteArray)]) (by first | (simp only [List.length_append, List.length_cons, List.length_nil] at hl ⊢; omega) | (rw [atomW_1 (by assumption)] at hl; simp only [List.length_append, List.length_cons, List.length_nil] at hl ⊢; omega) | (rw [atomW_2 (by assumption)] at hl; simp only [List.length_append, List.length_cons, List.length_nil] at hl ⊢; omega) | (rw [atomW_3 (by assumption)] at hl; simp only [List.length_append, List.length_cons, List.length_nil] at hl ⊢; omega) | (rw [atomW_4 (by assumption)] at hl; simp only [List.length_append, List.length_cons, List.length_nil] at hl ⊢; omega) | (rw [atomW_11 (by assumption)] at hl; simp only [List.length_append, List.length_cons, List.length_nil] at hl ⊢; omega) | (rw [atomW_read (by assumption) (by assumption)] at hl; simp only [List.length_append, List.length_cons, List.length_nil] at hl ⊢; omega))) (fun e w19 hR' => ?_)
        obtain ⟨va8, rfl, hb0', hO8, hF8, hMn8⟩ := hR'
        refine ⟨_, rfl, ?_⟩
        have nn_b1 : ¬ (b1 = b0 ∨ some b1 = Value.ownBlock va7) := fun e => e.elim (Ne.symm n_b0_b1) (hO7.neT hb1 rfl)
        replace hb1 := hF8.old _ _ nn_b1 hb1
        have nn_b2 : ¬ (b2 = b0 ∨ some b2 = Value.ownBlock va7) := fun e => e.elim (Ne.symm n_b0_b2) (hO7.neT hb2 rfl)
        replace hb2 := hF8.old _ _ nn_b2 hb2
        have nn_b10 : ¬ (b10 = b0 ∨ some b10 = Value.ownBlock va7) := fun e => e.elim (Ne.symm n_b0_b10) q_hO7_b10
        replace hb10 := hF8.old _ _ nn_b10 hb10
        replace hb0 := hb0'
        have ghO8 := hMn8.ge (Nat.le_trans hB0.size hR.size) ghO7
        replace hR := Fr.then hR hF8 (ws_sub hM)
        replace hM := Moved.then hM (Nat.le_trans (Nat.le_refl _) hsz8) hMn8
        replace hB := Fr.below hR hB0 hB0.size hSge
        refine At.ops0 ?_
        refine At.inN ?_
        refine At.doneN (ResV.nil) ?_
        have hq : (((ls ++ [t.nm, (⟨#[40]⟩ : ByteArray)]) ++ (btN (⟨#[44]⟩ : ByteArray) (eK (eaL t.kids)) t.kids.length)) ++ [(⟨#[41]⟩ : ByteArray)]) = ls ++ atomW t := by exfalso; omega
        exact ⟨va8, rfl, hb0, hq ▸ hO8, hR, hM⟩
       ·skip
        have hc6' := of_decide_eq_false hc6
        refine At.seq ?_
        have hw := atomW_other hc1' hc2' hc3' hc4' (fun e => hc5' e.2) hc6'
        have hex := hself hc1' hc2' hc3' hc4' (fun e => hc5' e.2) hc6'
        rw [hw] at hl
        refine At.region ?_
        refine At.load rfl (Ld.ownCell ag64 hb1 rfl) rfl ?_
        refine At.nilCheck rfl rfl ?_
        refine At.fieldAddr rfl fo68_0 rfl ?_
        refine At.buildSlice (xs := [.const (.string (⟨#[40]⟩ : ByteArray))]) rfl rfl el27 sz9 ze9 (by intro v hv; simp only [List.mem_cons, List.not_mem_nil, or_false] at hv; rcases hv with rfl <;> first | rfl | simp [Value.cells, Value.cells]) rfl (by decide) rfl (fun b11 w20 F11 => ?_)
        have q_hO_b11 : some b11 ≠ Value.ownBlock v := Own.neFresh hO F11
        have n_b0_b11 : b0 ≠ b11 := Nat.ne_of_lt (F11.lt hb0)
        have n_b1_b11 : b1 ≠ b11 := Nat.ne_of_lt (F11.lt hb1)
        have n_b2_b11 : b2 ≠ b11 := Nat.ne_of_lt (F11.lt hb2)
        have gb11 := Nat.le_trans hR.size (Nat.le_of_eq F11.eq.symm)
        replace hb0 := F11.old hb0
        replace hb1 := F11.old hb1
        replace hb2 := F11.old hb2
        replace hO := hO.fresh F11
        have hb11 : w20.heap[b11]? = some (.cells #[.string (⟨#[40]⟩ : ByteArray)] 9) := F11.new
        replace hR := hR.freshF F11
        replace hB := Fr.below hR hB0 hB0.size hSge
        have hsz9 := hR.size
        refine At.call en20 rfl rfl (add_any b0 v ls (.slice (some ⟨b11, 0, none⟩) 1 1) ([(⟨#[40]⟩ : ByteArray)]) w0 _ hB hbg gO hb0 hO (StrsAt.own (ss := [(⟨#[40]⟩ : ByteArray)]) hb11 rfl (by decide) : StrsAt _ (.slice (some ⟨b11, 0, none⟩) 1 1) [(⟨#[40]⟩ : ByteArray)]) (by first | (simp only [List.length_append, List.length_cons, List.length_nil] at hl ⊢; omega) | (rw [atomW_1 (by assumption)] at hl; simp only [List.length_append, List.length_cons, List.length_nil] at hl ⊢; omega) | (rw [atomW_2 (by assumption)] at hl; simp only [List.length_append, List.length_cons, List.length_nil] at hl ⊢; omega) | (rw [atomW_3 (by assumption)] at hl; simp only [List.length_append, List.length_cons, List.length_nil] at hl ⊢; omega) | (rw [atomW_4 (by assumption)] at hl; simp only [List.length_append, List.length_cons, List.length_nil] at hl ⊢; omega) | (rw [atomW_11 (by assumption)] at hl; simp only [List.length_append, List.length_cons, List.length_nil] at hl ⊢; omega) | (rw [atomW_read (by assumption) (by assumption)] at hl; simp only [List.length_append, List.length_cons, List.length_nil] at hl ⊢; omega))) (fun e w21 hR' => ?_)
        obtain ⟨va9, rfl, hb0', hO9, hF9, hMn9⟩ := hR'
        refine ⟨_, rfl, ?_⟩
        have nn_b1 : ¬ (b1 = b0 ∨ some b1 = Value.ownBlock v) := fun e => e.elim (Ne.symm n_b0_b1) (hO.neT hb1 rfl)
        replace hb1 := hF9.old _ _ nn_b1 hb1
        have nn_b2 : ¬ (b2 = b0 ∨ some b2 = Value.ownBlock v) := fun e => e.elim (Ne.symm n_b0_b2) (hO.neT hb2 rfl)
        replace hb2 := hF9.old _ _ nn_b2 hb2
        have nn_b11 : ¬ (b11 = b0 ∨ some b11 = Value.ownBlock v) := fun e => e.elim (Ne.symm n_b0_b11) q_hO_b11
        replace hb11 := hF9.old _ _ nn_b11 hb11
        replace hb0 := hb0'
        have ghO9 := hMn9.ge (Nat.le_trans hB0.size hR.size) gO
        replace hR := Fr.then hR hF9 (ws_sub hM)
        replace hM := Moved.then hM (Nat.le_trans (Nat.le_refl _) hsz9) hMn9
        replace hB := Fr.below hR hB0 hB0.size hSge
        refine At.ops0 ?_
        refine At.thenN ?_
        refine At.seq ?_
        refine At.region ?_
        refine At.load rfl (Ld.ownCell ag64 hb1 rfl) rfl ?_
        refine At.load rfl (Ld.own ag33 (sz33.trans (congrArg some (ht).size.symm)) hb2) rfl ?_
        have hsz10 := hR.size
        refine At.call en25 rfl rfl (hex va9 (ls ++ [(⟨#[40]⟩ : ByteArray)]) _ hB hbg ghO9 hb0 hO9 (by first | (simp only [List.length_append, List.length_cons, List.length_nil] at hl ⊢; omega) | (rw [atomW_1 (by assumption)] at hl; simp only [List.length_append, List.length_cons, List.length_nil] at hl ⊢; omega) | (rw [atomW_2 (by assumption)] at hl; simp only [List.length_append, List.length_cons, List.length_nil] at hl ⊢; omega) | (rw [atomW_3 (by assumption)] at hl; simp only [List.length_append, List.length_cons, List.length_nil] at hl ⊢; omega) | (rw [atomW_4 (by assumption)] at hl; simp only [List.length_append, List.length_cons, List.length_nil] at hl ⊢; omega) | (rw [atomW_11 (by assumption)] at hl; simp only [List.length_append, List.length_cons, List.length_nil] at hl ⊢; omega) | (rw [atomW_read (by assumption) (by assumption)] at hl; simp only [List.length_append, List.length_cons, List.length_nil] at hl ⊢; omega))) (fun e w22 hR' => ?_)
        obtain ⟨va10, rfl, hb0', hO10, hF10, hMn10⟩ := hR'
        refine ⟨_, rfl, ?_⟩
        have nn_b1 : ¬ (b1 = b0 ∨ some b1 = Value.ownBlock va9) := fun e => e.elim (Ne.symm n_b0_b1) (hO9.neT hb1 rfl)
        replace hb1 := hF10.old _ _ nn_b1 hb1
        have nn_b2 : ¬ (b2 = b0 ∨ some b2 = Value.ownBlock va9) := fun e => e.elim (Ne.symm n_b0_b2) (hO9.neT hb2 rfl)
        replace hb2 := hF10.old _ _ nn_b2 hb2
        clear hb11
        replace hb0 := hb0'
        have ghO10 := hMn10.ge (Nat.le_trans hB0.size hR.size) ghO9
        replace hR := Fr.then hR hF10 (ws_sub hM)
        replace hM := Moved.then hM (Nat.le_trans (Nat.le_refl _) hsz10) hMn10
        replace hB := Fr.below hR hB0 hB0.size hSge
        refine At.ops0 ?_
        refine At.thenN ?_
        refine At.region ?_
        refine At.load rfl (Ld.ownCell ag64 hb1 rfl) rfl ?_
        refine At.nilCheck rfl rfl ?_
        refine At.fieldAddr rfl fo68_0 rfl ?_
        refine At.buildSlice (xs := [.const (.string (⟨#[41]⟩ : ByteArray))]) rfl rfl el27 sz9 ze9 (by intro v hv; simp only [List.mem_cons, List.not_mem_nil, or_false] at hv; rcases hv with rfl <;> first | rfl | simp [Value.cells, Value.cells]) rfl (by decide) rfl (fun b12 w23 F12 => ?_)
        have q_hO10_b12 : some b12 ≠ Value.ownBlock va10 := Own.neFresh hO10 F12
        have n_b0_b12 : b0 ≠ b12 := Nat.ne_of_lt (F12.lt hb0)
        have n_b1_b12 : b1 ≠ b12 := Nat.ne_of_lt (F12.lt hb1)
        have n_b2_b12 : b2 ≠ b12 := Nat.ne_of_lt (F12.lt hb2)
        have gb12 := Nat.le_trans hR.size (Nat.le_of_eq F12.eq.symm)
        replace hb0 := F12.old hb0
        replace hb1 := F12.old hb1
        replace hb2 := F12.old hb2
        replace hO10 := hO10.fresh F12
        have hb12 : w23.heap[b12]? = some (.cells #[.string (⟨#[41]⟩ : ByteArray)] 9) := F12.new
        replace hR := hR.freshF F12
        replace hB := Fr.below hR hB0 hB0.size hSge
        have hsz11 := hR.size
        refine At.call en20 rfl rfl (add_any b0 va10 ((ls ++ [(⟨#[40]⟩ : ByteArray)]) ++ (exprW t)) (.slice (some ⟨b12, 0, none⟩) 1 1) ([(⟨#[41]⟩ : ByteArray)]) w0 _ hB hbg ghO10 hb0 hO10 (StrsAt.own (ss := [(⟨#[41]⟩ : ByteArray)]) hb12 rfl (by decide) : StrsAt _ (.slice (some ⟨b12, 0, none⟩) 1 1) [(⟨#[41]⟩ : ByteArray)]) (by first | (simp only [List.length_append, List.length_cons, List.length_nil] at hl ⊢; omega) | (rw [atomW_1 (by assumption)] at hl; simp only [List.length_append, List.length_cons, List.length_nil] at hl ⊢; omega) | (rw [atomW_2 (by assumption)] at hl; simp only [List.length_append, List.length_cons, List.length_nil] at hl ⊢; omega) | (rw [atomW_3 (by assumption)] at hl; simp only [List.length_append, List.length_cons, List.length_nil] at hl ⊢; omega) | (rw [atomW_4 (by assumption)] at hl; simp only [List.length_append, List.length_cons, List.length_nil] at hl ⊢; omega) | (rw [atomW_11 (by assumption)] at hl; simp only [List.length_append, List.length_cons, List.length_nil] at hl ⊢; omega) | (rw [atomW_read (by assumption) (by assumption)] at hl; simp only [List.length_append, List.length_cons, List.length_nil] at hl ⊢; omega))) (fun e w24 hR' => ?_)
        obtain ⟨va11, rfl, hb0', hO11, hF11, hMn11⟩ := hR'
        refine ⟨_, rfl, ?_⟩
        have nn_b1 : ¬ (b1 = b0 ∨ some b1 = Value.ownBlock va10) := fun e => e.elim (Ne.symm n_b0_b1) (hO10.neT hb1 rfl)
        replace hb1 := hF11.old _ _ nn_b1 hb1
        have nn_b2 : ¬ (b2 = b0 ∨ some b2 = Value.ownBlock va10) := fun e => e.elim (Ne.symm n_b0_b2) (hO10.neT hb2 rfl)
        replace hb2 := hF11.old _ _ nn_b2 hb2
        have nn_b12 : ¬ (b12 = b0 ∨ some b12 = Value.ownBlock va10) := fun e => e.elim (Ne.symm n_b0_b12) q_hO10_b12
        replace hb12 := hF11.old _ _ nn_b12 hb12
        replace hb0 := hb0'
        have ghO11 := hMn11.ge (Nat.le_trans hB0.size hR.size) ghO10
        replace hR := Fr.then hR hF11 (ws_sub hM)
        replace hM := Moved.then hM (Nat.le_trans (Nat.le_refl _) hsz11) hMn11
        replace hB := Fr.below hR hB0 hB0.size hSge
        refine At.ops0 ?_
        refine At.inN ?_
        refine At.doneN (ResV.nil) ?_
        have hq : (((ls ++ [(⟨#[40]⟩ : ByteArray)]) ++ (exprW t)) ++ [(⟨#[41]⟩ : ByteArray)]) = ls ++ atomW t := by rw [hw]; simp
        exact ⟨va11, rfl, hb0, hq ▸ hO11, hR, hM⟩
     ·skip
      refine At.set (d := 67) (u := .bool false) rfl (congrArg Value.bool hg1) ?_
      have hg1' := of_decide_eq_false hg1
      refine At.no rfl rfl rfl rfl rfl rfl rfl ?_
      refine At.no rfl rfl rfl rfl rfl rfl rfl ?_
      refine At.no rfl rfl rfl rfl rfl rfl rfl ?_
      refine At.pickF rfl rfl rfl ?_
      refine At.assign rfl rfl ?_
      refine At.ops0 ?_
      refine At.thenN ?_
      refine At.condF rfl ?_
      refine At.seq ?_
      refine At.region ?_
      refine At.fieldAddr rfl fo33_0 rfl ?_
      refine At.load rfl (Ld.ownCell ag3 hb2 (ht).c0) rfl ?_
      refine At.eqI rfl rfl rfl ?_
      refine At.assign rfl rfl ?_
      refine At.ops0 ?_
      refine At.thenN ?_
      refine At.cond (b := decide (t.k = 11)) rfl (fun hc7 => ?_) (fun hc7 => ?_)
      ·skip
       have hc7' := of_decide_eq_true hc7
       refine At.seq ?_
       refine At.drawG (n := 7) mixed (by kernel_rfl) rfl (PanicOk.then (PanicOk.block PanicOk.body)) ?_
       have hR := Fr.drewF hR
       have hB := Below.drewB hB
       have hb0 : _ := (show w2.drew.heap[b0]? = _ from hb0)
       have hb1 : _ := (show w2.drew.heap[b1]? = _ from hb1)
       have hb2 : _ := (show w2.drew.heap[b2]? = _ from hb2)
       have hO := hO.drew
       refine At.wpcS (i := 0) (d := 81) (.pointer (some ⟨b0, 0, none⟩)) (by kernel_rfl) rfl rfl rfl (fun Lx => ?_) ?_
       ·skip
        refine At.load rfl (Ld.ownCell ag64 hb1 rfl) rfl ?_
        refine At.ops0 ?_
        exact fun a ha => ⟨ha, rfl⟩
       refine At.wpcS (i := 1) (d := 82) (.pointer (some ⟨b0, 0, none⟩)) (by kernel_rfl) rfl rfl rfl (fun Lx => ?_) ?_
       ·skip
        refine At.nilCheck rfl rfl ?_
        refine At.ops0 ?_
        exact fun a ha => ⟨ha, rfl⟩
       refine At.wpcS (i := 2) (d := 83) (.pointer (some ⟨b0, 0 + 0, none⟩)) (by kernel_rfl) rfl rfl rfl (fun Lx => ?_) ?_
       ·skip
        refine At.fieldAddr rfl fo68_0 rfl ?_
        refine At.ops0 ?_
        exact fun a ha => ⟨ha, rfl⟩
       refine At.wpcS (i := 3) (d := 84) (.pointer (some ⟨b2, 0 + 2, none⟩)) (by kernel_rfl) rfl rfl rfl (fun Lx => ?_) ?_
       ·skip
        refine At.fieldAddr rfl fo33_2 rfl ?_
        refine At.ops0 ?_
        exact fun a ha => ⟨ha, rfl⟩
       refine At.wpcS (i := 4) (d := 85) (.string t.nm) (by kernel_rfl) rfl rfl rfl (fun Lx => ?_) ?_
       ·skip
        refine At.load rfl (Ld.ownCell ag9 hb2 (ht).c2) rfl ?_
        refine At.ops0 ?_
        exact fun a ha => ⟨ha, rfl⟩
       refine At.wpcE [5] (by kernel_rfl) (by kernel_rfl) (.cons [0, 1, 2] rfl (by kernel_rfl) ?_ .nil)
       refine At.buildSlice (xs := [.tmp 85, .const (.string (⟨#[40]⟩ : ByteArray))]) rfl rfl el27 sz9 ze9 (by intro v hv; simp only [List.mem_cons, List.not_mem_nil, or_false] at hv; rcases hv with rfl | rfl <;> first | rfl | simp [Value.cells, Value.cells]) rfl (by decide) rfl (fun b13 w25 F13 => ?_)
       have q_hO_b13 : some b13 ≠ Value.ownBlock v := Own.neFresh hO F13
       have n_b0_b13 : b0 ≠ b13 := Nat.ne_of_lt (F13.lt hb0)
       have n_b1_b13 : b1 ≠ b13 := Nat.ne_of_lt (F13.lt hb1)
       have n_b2_b13 : b2 ≠ b13 := Nat.ne_of_lt (F13.lt hb2)
       have gb13 := Nat.le_trans hR.size (Nat.le_of_eq F13.eq.symm)
       replace hb0 := F13.old hb0
       replace hb1 := F13.old hb1
       replace hb2 := F13.old hb2
       replace hO := hO.fresh F13
       have hb13 : w25.heap[b13]? = some (.cells #[.string t.nm, .string (⟨#[40]⟩ : ByteArray)] 9) := F13.new
       replace hR := hR.freshF F13
       replace hB := Fr.below hR hB0 hB0.size hSge
       refine At.ops0 ?_
       refine At.wpcN (.cons rfl rfl rfl rfl (fun Lx => ?_) (.cons rfl rfl rfl rfl (fun Lx => ?_) (.cons rfl rfl rfl rfl (fun Lx => ?_) .nil))) ?_
       ·skip
        refine At.load rfl (Ld.ownCell ag64 hb1 rfl) rfl ?_
        refine At.ops0 ?_
        exact fun a ha => ⟨ha, rfl⟩
       ·skip
        refine At.nilCheck rfl rfl ?_
        refine At.ops0 ?_
        exact fun a ha => ⟨ha, rfl⟩
       ·skip
        refine At.fieldAddr rfl fo68_0 rfl ?_
        refine At.ops0 ?_
        exact fun a ha => ⟨ha, rfl⟩
       refine At.wpcE [6] (by kernel_rfl) (by kernel_rfl) (.cons [] rfl (by kernel_rfl) ?_ .nil)
       have hsz12 := hR.size
       refine At.call en20 rfl rfl (add_any b0 v ls (.slice (some ⟨b13, 0, none⟩) 2 2) ([t.nm, (⟨#[40]⟩ : ByteArray)]) w0 _ hB hbg gO hb0 hO (StrsAt.own (ss := [t.nm, (⟨#[40]⟩ : ByteArray)]) hb13 rfl (by decide) : StrsAt _ (.slice (some ⟨b13, 0, none⟩) 2 2) [t.nm, (⟨#[40]⟩ : ByteArray)]) (by first | (simp only [List.length_append, List.length_cons, List.length_nil] at hl ⊢; omega) | (rw [atomW_1 (by assumption)] at hl; simp only [List.length_append, List.length_cons, List.length_nil] at hl ⊢; omega) | (rw [atomW_2 (by assumption)] at hl; simp only [List.length_append, List.length_cons, List.length_nil] at hl ⊢; omega) | (rw [atomW_3 (by assumption)] at hl; simp only [List.length_append, List.length_cons, List.length_nil] at hl ⊢; omega) | (rw [atomW_4 (by assumption)] at hl; simp only [List.length_append, List.length_cons, List.length_nil] at hl ⊢; omega) | (rw [atomW_11 (by assumption)] at hl; simp only [List.length_append, List.length_cons, List.length_nil] at hl ⊢; omega) | (rw [atomW_read (by assumption) (by assumption)] at hl; simp only [List.length_append, List.length_cons, List.length_nil] at hl ⊢; omega))) (fun e w26 hR' => ?_)
       obtain ⟨va12, rfl, hb0', hO12, hF12, hMn12⟩ := hR'
       refine ⟨_, rfl, ?_⟩
       have nn_b1 : ¬ (b1 = b0 ∨ some b1 = Value.ownBlock v) := fun e => e.elim (Ne.symm n_b0_b1) (hO.neT hb1 rfl)
       replace hb1 := hF12.old _ _ nn_b1 hb1
       have nn_b2 : ¬ (b2 = b0 ∨ some b2 = Value.ownBlock v) := fun e => e.elim (Ne.symm n_b0_b2) (hO.neT hb2 rfl)
       replace hb2 := hF12.old _ _ nn_b2 hb2
       have nn_b13 : ¬ (b13 = b0 ∨ some b13 = Value.ownBlock v) := fun e => e.elim (Ne.symm n_b0_b13) q_hO_b13
       replace hb13 := hF12.old _ _ nn_b13 hb13
       replace hb0 := hb0'
       have ghO12 := hMn12.ge (Nat.le_trans hB0.size hR.size) gO
       replace hR := Fr.then hR hF12 (ws_sub hM)
       replace hM := Moved.then hM (Nat.le_trans (Nat.le_refl _) hsz12) hMn12
       replace hB := Fr.below hR hB0 hB0.size hSge
       refine At.ops0 ?_
       refine At.wpcN .nil ?_
       refine At.wpcZ ?_
       refine At.thenN ?_
       refine At.seq ?_
       refine At.region ?_
       refine At.load rfl (Ld.ownCell ag64 hb1 rfl) rfl ?_
       refine At.fieldAddr rfl fo33_5 rfl ?_
       refine At.load rfl (Ld.ownCell ag24 hb2 (ht).c5) rfl ?_
       refine At.lenSl rfl ((ht).kidsAt).okL el24 rfl ?_
       refine At.makeFunc rfl rfl ?_
       have hsz13 := hR.size
       have nnc_b1 : ¬ (b1 = b0 ∨ some b1 = Value.ownBlock va12) := fun e => e.elim (Ne.symm n_b0_b1) (hO12.neT hb1 rfl)
       have nnc_b2 : ¬ (b2 = b0 ∨ some b2 = Value.ownBlock va12) := fun e => e.elim (Ne.symm n_b0_b2) (hO12.neT hb2 rfl)
       refine At.call en21 rfl rfl (between_any b0 va12 (ls ++ [t.nm, (⟨#[40]⟩ : ByteArray)]) t.kids.length (⟨#[44]⟩ : ByteArray) 80 [.pointer (some ⟨b1, 0, none⟩), .pointer (some ⟨b2, 0, none⟩)] (eK (eaL t.kids)) w0 _ hB hbg ghO12 hb0 hO12 (by omega) (by first | (simp only [List.length_append, List.length_cons, List.length_nil] at hl ⊢; omega) | (rw [atomW_1 (by assumption)] at hl; simp only [List.length_append, List.length_cons, List.length_nil] at hl ⊢; omega) | (rw [atomW_2 (by assumption)] at hl; simp only [List.length_append, List.length_cons, List.length_nil] at hl ⊢; omega) | (rw [atomW_3 (by assumption)] at hl; simp only [List.length_append, List.length_cons, List.length_nil] at hl ⊢; omega) | (rw [atomW_4 (by assumption)] at hl; simp only [List.length_append, List.length_cons, List.length_nil] at hl ⊢; omega) | (rw [atomW_11 (by assumption)] at hl; simp only [List.length_append, List.length_cons, List.length_nil] at hl ⊢; omega) | (rw [atomW_read (by assumption) (by assumption)] at hl; simp only [List.length_append, List.length_cons, List.length_nil] at hl ⊢; omega)) en80 (fun i v1 l1 w1 hi xB xg xF xM xb xO xl => by
        obtain ⟨u, hu⟩ := some_of_lt (l := t.kids) (i := i) (by omega)
        rw [eK_at hu] at xl ⊢
        exact kid1_any b0 v1 l1 w0 t b1 b2 i u w1 xB hbg xg xb xO ht (xF.old _ _ nnc_b1 hb1) (xF.old _ _ nnc_b2 hb2) n_b0_b1 n_b0_b2 n_b1_b2 hu (hke u (List.mem_of_getElem? hu)) xl)) (fun e w27 hR' => ?_)
       obtain ⟨va13, rfl, hb0', hO13, hF13, hMn13⟩ := hR'
       refine ⟨_, rfl, ?_⟩
       have nn_b1 : ¬ (b1 = b0 ∨ some b1 = Value.ownBlock va12) := fun e => e.elim (Ne.symm n_b0_b1) (hO12.neT hb1 rfl)
       replace hb1 := hF13.old _ _ nn_b1 hb1
       have nn_b2 : ¬ (b2 = b0 ∨ some b2 = Value.ownBlock va12) := fun e => e.elim (Ne.symm n_b0_b2) (hO12.neT hb2 rfl)
       replace hb2 := hF13.old _ _ nn_b2 hb2
       clear hb13
       replace hb0 := hb0'
       have ghO13 := hMn13.ge (Nat.le_trans hB0.size hR.size) ghO12
       replace hR := Fr.then hR hF13 (ws_sub hM)
       replace hM := Moved.then hM (Nat.le_trans (Nat.le_refl _) hsz13) hMn13
       replace hB := Fr.below hR hB0 hB0.size hSge
       refine At.ops0 ?_
       refine At.thenN ?_
       refine At.region ?_
       refine At.load rfl (Ld.ownCell ag64 hb1 rfl) rfl ?_
       refine At.nilCheck rfl rfl ?_
       refine At.fieldAddr rfl fo68_0 rfl ?_
       refine At.buildSlice (xs := [.const (.string (⟨#[41]⟩ : ByteArray))]) rfl rfl el27 sz9 ze9 (by intro v hv; simp only [List.mem_cons, List.not_mem_nil, or_false] at hv; rcases hv with rfl <;> first | rfl | simp [Value.cells, Value.cells]) rfl (by decide) rfl (fun b14 w28 F14 => ?_)
       have q_hO13_b14 : some b14 ≠ Value.ownBlock va13 := Own.neFresh hO13 F14
       have n_b0_b14 : b0 ≠ b14 := Nat.ne_of_lt (F14.lt hb0)
       have n_b1_b14 : b1 ≠ b14 := Nat.ne_of_lt (F14.lt hb1)
       have n_b2_b14 : b2 ≠ b14 := Nat.ne_of_lt (F14.lt hb2)
       have gb14 := Nat.le_trans hR.size (Nat.le_of_eq F14.eq.symm)
       replace hb0 := F14.old hb0
       replace hb1 := F14.old hb1
       replace hb2 := F14.old hb2
       replace hO13 := hO13.fresh F14
       have hb14 : w28.heap[b14]? = some (.cells #[.string (⟨#[41]⟩ : ByteArray)] 9) := F14.new
       replace hR := hR.freshF F14
       replace hB := Fr.below hR hB0 hB0.size hSge
       have hsz14 := hR.size
       refine At.call en20 rfl rfl (add_any b0 va13 ((ls ++ [t.nm, (⟨#[40]⟩ : ByteArray)]) ++ (btN (⟨#[44]⟩ : ByteArray) (eK (eaL t.kids)) t.kids.length)) (.slice (some ⟨b14, 0, none⟩) 1 1) ([(⟨#[41]⟩ : ByteArray)]) w0 _ hB hbg ghO13 hb0 hO13 (StrsAt.own (ss := [(⟨#[41]⟩ : ByteArray)]) hb14 rfl (by decide) : StrsAt _ (.slice (some ⟨b14, 0, none⟩) 1 1) [(⟨#[41]⟩ : ByteArray)]) (by first | (simp only [List.length_append, List.length_cons, List.length_nil] at hl ⊢; omega) | (rw [atomW_1 (by assumption)] at hl; simp only [List.length_append, List.length_cons, List.length_nil] at hl ⊢; omega) | (rw [atomW_2 (by assumption)] at hl; simp only [List.length_append, List.length_cons, List.length_nil] at hl ⊢; omega) | (rw [atomW_3 (by assumption)] at hl; simp only [List.length_append, List.length_cons, List.length_nil] at hl ⊢; omega) | (rw [atomW_4 (by assumption)] at hl; simp only [List.length_append, List.length_cons, List.length_nil] at hl ⊢; omega) | (rw [atomW_11 (by assumption)] at hl; simp only [List.length_append, List.length_cons, List.length_nil] at hl ⊢; omega) | (rw [atomW_read (by assumption) (by assumption)] at hl; simp only [List.length_append, List.length_cons, List.length_nil] at hl ⊢; omega))) (fun e w29 hR' => ?_)
       obtain ⟨va14, rfl, hb0', hO14, hF14, hMn14⟩ := hR'
       refine ⟨_, rfl, ?_⟩
       have nn_b1 : ¬ (b1 = b0 ∨ some b1 = Value.ownBlock va13) := fun e => e.elim (Ne.symm n_b0_b1) (hO13.neT hb1 rfl)
       replace hb1 := hF14.old _ _ nn_b1 hb1
       have nn_b2 : ¬ (b2 = b0 ∨ some b2 = Value.ownBlock va13) := fun e => e.elim (Ne.symm n_b0_b2) (hO13.neT hb2 rfl)
       replace hb2 := hF14.old _ _ nn_b2 hb2
       have nn_b14 : ¬ (b14 = b0 ∨ some b14 = Value.ownBlock va13) := fun e => e.elim (Ne.symm n_b0_b14) q_hO13_b14
       replace hb14 := hF14.old _ _ nn_b14 hb14
       replace hb0 := hb0'
       have ghO14 := hMn14.ge (Nat.le_trans hB0.size hR.size) ghO13
       replace hR := Fr.then hR hF14 (ws_sub hM)
       replace hM := Moved.then hM (Nat.le_trans (Nat.le_refl _) hsz14) hMn14
       replace hB := Fr.below hR hB0 hB0.size hSge
       refine At.ops0 ?_
       refine At.inN ?_
       refine At.doneN (ResV.nil) ?_
       have hq : (((ls ++ [t.nm, (⟨#[40]⟩ : ByteArray)]) ++ (btN (⟨#[44]⟩ : ByteArray) (eK (eaL t.kids)) t.kids.length)) ++ [(⟨#[41]⟩ : ByteArray)]) = ls ++ atomW t := by rw [atomW_11 hc7']; simp
       exact ⟨va14, rfl, hb0, hq ▸ hO14, hR, hM⟩
      ·skip
       have hc7' := of_decide_eq_false hc7
       refine At.seq ?_
       have hw := atomW_other hc1' hc2' hc3' hc4' (fun e => hg1' e.1) hc7'
       have hex := hself hc1' hc2' hc3' hc4' (fun e => hg1' e.1) hc7'
       rw [hw] at hl
       refine At.region ?_
       refine At.load rfl (Ld.ownCell ag64 hb1 rfl) rfl ?_
       refine At.nilCheck rfl rfl ?_
       refine At.fieldAddr rfl fo68_0 rfl ?_
       refine At.buildSlice (xs := [.const (.string (⟨#[40]⟩ : ByteArray))]) rfl rfl el27 sz9 ze9 (by intro v hv; simp only [List.mem_cons, List.not_mem_nil, or_false] at hv; rcases hv with rfl <;> first | rfl | simp [Value.cells, Value.cells]) rfl (by decide) rfl (fun b15 w30 F15 => ?_)
       have q_hO_b15 : some b15 ≠ Value.ownBlock v := Own.neFresh hO F15
       have n_b0_b15 : b0 ≠ b15 := Nat.ne_of_lt (F15.lt hb0)
       have n_b1_b15 : b1 ≠ b15 := Nat.ne_of_lt (F15.lt hb1)
       have n_b2_b15 : b2 ≠ b15 := Nat.ne_of_lt (F15.lt hb2)
       have gb15 := Nat.le_trans hR.size (Nat.le_of_eq F15.eq.symm)
       replace hb0 := F15.old hb0
       replace hb1 := F15.old hb1
       replace hb2 := F15.old hb2
       replace hO := hO.fresh F15
       have hb15 : w30.heap[b15]? = some (.cells #[.string (⟨#[40]⟩ : ByteArray)] 9) := F15.new
       replace hR := hR.freshF F15
       replace hB := Fr.below hR hB0 hB0.size hSge
       have hsz15 := hR.size
       refine At.call en20 rfl rfl (add_any b0 v ls (.slice (some ⟨b15, 0, none⟩) 1 1) ([(⟨#[40]⟩ : ByteArray)]) w0 _ hB hbg gO hb0 hO (StrsAt.own (ss := [(⟨#[40]⟩ : ByteArray)]) hb15 rfl (by decide) : StrsAt _ (.slice (some ⟨b15, 0, none⟩) 1 1) [(⟨#[40]⟩ : ByteArray)]) (by first | (simp only [List.length_append, List.length_cons, List.length_nil] at hl ⊢; omega) | (rw [atomW_1 (by assumption)] at hl; simp only [List.length_append, List.length_cons, List.length_nil] at hl ⊢; omega) | (rw [atomW_2 (by assumption)] at hl; simp only [List.length_append, List.length_cons, List.length_nil] at hl ⊢; omega) | (rw [atomW_3 (by assumption)] at hl; simp only [List.length_append, List.length_cons, List.length_nil] at hl ⊢; omega) | (rw [atomW_4 (by assumption)] at hl; simp only [List.length_append, List.length_cons, List.length_nil] at hl ⊢; omega) | (rw [atomW_11 (by assumption)] at hl; simp only [List.length_append, List.length_cons, List.length_nil] at hl ⊢; omega) | (rw [atomW_read (by assumption) (by assumption)] at hl; simp only [List.length_append, List.length_cons, List.length_nil] at hl ⊢; omega))) (fun e w31 hR' => ?_)
       obtain ⟨va15, rfl, hb0', hO15, hF15, hMn15⟩ := hR'
       refine ⟨_, rfl, ?_⟩
       have nn_b1 : ¬ (b1 = b0 ∨ some b1 = Value.ownBlock v) := fun e => e.elim (Ne.symm n_b0_b1) (hO.neT hb1 rfl)
       replace hb1 := hF15.old _ _ nn_b1 hb1
       have nn_b2 : ¬ (b2 = b0 ∨ some b2 = Value.ownBlock v) := fun e => e.elim (Ne.symm n_b0_b2) (hO.neT hb2 rfl)
       replace hb2 := hF15.old _ _ nn_b2 hb2
       have nn_b15 : ¬ (b15 = b0 ∨ some b15 = Value.ownBlock v) := fun e => e.elim (Ne.symm n_b0_b15) q_hO_b15
       replace hb15 := hF15.old _ _ nn_b15 hb15
       replace hb0 := hb0'
       have ghO15 := hMn15.ge (Nat.le_trans hB0.size hR.size) gO
       replace hR := Fr.then hR hF15 (ws_sub hM)
       replace hM := Moved.then hM (Nat.le_trans (Nat.le_refl _) hsz15) hMn15
       replace hB := Fr.below hR hB0 hB0.size hSge
       refine At.ops0 ?_
       refine At.thenN ?_
       refine At.seq ?_
       refine At.region ?_
       refine At.load rfl (Ld.ownCell ag64 hb1 rfl) rfl ?_
       refine At.load rfl (Ld.own ag33 (sz33.trans (congrArg some (ht).size.symm)) hb2) rfl ?_
       have hsz16 := hR.size
       refine At.call en25 rfl rfl (hex va15 (ls ++ [(⟨#[40]⟩ : ByteArray)]) _ hB hbg ghO15 hb0 hO15 (by first | (simp only [List.length_append, List.length_cons, List.length_nil] at hl ⊢; omega) | (rw [atomW_1 (by assumption)] at hl; simp only [List.length_append, List.length_cons, List.length_nil] at hl ⊢; omega) | (rw [atomW_2 (by assumption)] at hl; simp only [List.length_append, List.length_cons, List.length_nil] at hl ⊢; omega) | (rw [atomW_3 (by assumption)] at hl; simp only [List.length_append, List.length_cons, List.length_nil] at hl ⊢; omega) | (rw [atomW_4 (by assumption)] at hl; simp only [List.length_append, List.length_cons, List.length_nil] at hl ⊢; omega) | (rw [atomW_11 (by assumption)] at hl; simp only [List.length_append, List.length_cons, List.length_nil] at hl ⊢; omega) | (rw [atomW_read (by assumption) (by assumption)] at hl; simp only [List.length_append, List.length_cons, List.length_nil] at hl ⊢; omega))) (fun e w32 hR' => ?_)
       obtain ⟨va16, rfl, hb0', hO16, hF16, hMn16⟩ := hR'
       refine ⟨_, rfl, ?_⟩
       have nn_b1 : ¬ (b1 = b0 ∨ some b1 = Value.ownBlock va15) := fun e => e.elim (Ne.symm n_b0_b1) (hO15.neT hb1 rfl)
       replace hb1 := hF16.old _ _ nn_b1 hb1
       have nn_b2 : ¬ (b2 = b0 ∨ some b2 = Value.ownBlock va15) := fun e => e.elim (Ne.symm n_b0_b2) (hO15.neT hb2 rfl)
       replace hb2 := hF16.old _ _ nn_b2 hb2
       clear hb15
       replace hb0 := hb0'
       have ghO16 := hMn16.ge (Nat.le_trans hB0.size hR.size) ghO15
       replace hR := Fr.then hR hF16 (ws_sub hM)
       replace hM := Moved.then hM (Nat.le_trans (Nat.le_refl _) hsz16) hMn16
       replace hB := Fr.below hR hB0 hB0.size hSge
       refine At.ops0 ?_
       refine At.thenN ?_
       refine At.region ?_
       refine At.load rfl (Ld.ownCell ag64 hb1 rfl) rfl ?_
       refine At.nilCheck rfl rfl ?_
       refine At.fieldAddr rfl fo68_0 rfl ?_
       refine At.buildSlice (xs := [.const (.string (⟨#[41]⟩ : ByteArray))]) rfl rfl el27 sz9 ze9 (by intro v hv; simp only [List.mem_cons, List.not_mem_nil, or_false] at hv; rcases hv with rfl <;> first | rfl | simp [Value.cells, Value.cells]) rfl (by decide) rfl (fun b16 w33 F16 => ?_)
       have q_hO16_b16 : some b16 ≠ Value.ownBlock va16 := Own.neFresh hO16 F16
       have n_b0_b16 : b0 ≠ b16 := Nat.ne_of_lt (F16.lt hb0)
       have n_b1_b16 : b1 ≠ b16 := Nat.ne_of_lt (F16.lt hb1)
       have n_b2_b16 : b2 ≠ b16 := Nat.ne_of_lt (F16.lt hb2)
       have gb16 := Nat.le_trans hR.size (Nat.le_of_eq F16.eq.symm)
       replace hb0 := F16.old hb0
       replace hb1 := F16.old hb1
       replace hb2 := F16.old hb2
       replace hO16 := hO16.fresh F16
       have hb16 : w33.heap[b16]? = some (.cells #[.string (⟨#[41]⟩ : ByteArray)] 9) := F16.new
       replace hR := hR.freshF F16
       replace hB := Fr.below hR hB0 hB0.size hSge
       have hsz17 := hR.size
       refine At.call en20 rfl rfl (add_any b0 va16 ((ls ++ [(⟨#[40]⟩ : ByteArray)]) ++ (exprW t)) (.slice (some ⟨b16, 0, none⟩) 1 1) ([(⟨#[41]⟩ : ByteArray)]) w0 _ hB hbg ghO16 hb0 hO16 (StrsAt.own (ss := [(⟨#[41]⟩ : ByteArray)]) hb16 rfl (by decide) : StrsAt _ (.slice (some ⟨b16, 0, none⟩) 1 1) [(⟨#[41]⟩ : ByteArray)]) (by first | (simp only [List.length_append, List.length_cons, List.length_nil] at hl ⊢; omega) | (rw [atomW_1 (by assumption)] at hl; simp only [List.length_append, List.length_cons, List.length_nil] at hl ⊢; omega) | (rw [atomW_2 (by assumption)] at hl; simp only [List.length_append, List.length_cons, List.length_nil] at hl ⊢; omega) | (rw [atomW_3 (by assumption)] at hl; simp only [List.length_append, List.length_cons, List.length_nil] at hl ⊢; omega) | (rw [atomW_4 (by assumption)] at hl; simp only [List.length_append, List.length_cons, List.length_nil] at hl ⊢; omega) | (rw [atomW_11 (by assumption)] at hl; simp only [List.length_append, List.length_cons, List.length_nil] at hl ⊢; omega) | (rw [atomW_read (by assumption) (by assumption)] at hl; simp only [List.length_append, List.length_cons, List.length_nil] at hl ⊢; omega))) (fun e w34 hR' => ?_)
       obtain ⟨va17, rfl, hb0', hO17, hF17, hMn17⟩ := hR'
       refine ⟨_, rfl, ?_⟩
       have nn_b1 : ¬ (b1 = b0 ∨ some b1 = Value.ownBlock va16) := fun e => e.elim (Ne.symm n_b0_b1) (hO16.neT hb1 rfl)
       replace hb1 := hF17.old _ _ nn_b1 hb1
       have nn_b2 : ¬ (b2 = b0 ∨ some b2 = Value.ownBlock va16) := fun e => e.elim (Ne.symm n_b0_b2) (hO16.neT hb2 rfl)
       replace hb2 := hF17.old _ _ nn_b2 hb2
       have nn_b16 : ¬ (b16 = b0 ∨ some b16 = Value.ownBlock va16) := fun e => e.elim (Ne.symm n_b0_b16) q_hO16_b16
       replace hb16 := hF17.old _ _ nn_b16 hb16
       replace hb0 := hb0'
       have ghO17 := hMn17.ge (Nat.le_trans hB0.size hR.size) ghO16
       replace hR := Fr.then hR hF17 (ws_sub hM)
       replace hM := Moved.then hM (Nat.le_trans (Nat.le_refl _) hsz17) hMn17
       replace hB := Fr.below hR hB0 hB0.size hSge
       refine At.ops0 ?_
       refine At.inN ?_
       refine At.doneN (ResV.nil) ?_
       have hq : (((ls ++ [(⟨#[40]⟩ : ByteArray)]) ++ (exprW t)) ++ [(⟨#[41]⟩ : ByteArray)]) = ls ++ atomW t := by rw [hw]; simp
       exact ⟨va17, rfl, hb0, hq ▸ hO17, hR, hM⟩
set_option maxHeartbeats 4000000 in
theorem expr_gen (b0 : Nat) (v : Value) (ls : List ByteArray) (w0 : World) (t : Tm) (w : World) (hB0 : Below w0.heap.size w0 w) (hbg : w0.heap.size ≤ b0) (gO : ∀ g, v.ownBlock = some g → w0.heap.size ≤ g) (hb0 : w.heap[b0]? = some (.cells #[v] 68)) (hO : OwnS 9 w v ls) (ht : TmOk w0 t) (hr : RightF t) (hnmz : t.nm.size ≤ 4194304) (hke : ∀ u ∈ t.kids, ExC 25 w0 b0 u (exprW u)) (hka : ∀ u ∈ t.kids, ExC 50 w0 b0 u (atomW u)) (hba : ∀ a ∈ t.arms, ExC 25 w0 b0 a.body (exprW a.body)) (hsim : t.k = 1 ∨ t.k = 2 ∨ t.k = 3 ∨ t.k = 4 ∨ t.k = 11 ∨ (t.k = 10 ∧ t.nm = (⟨#[114, 101, 97, 100]⟩ : ByteArray)) → ExC 50 w0 b0 t (atomW t)) (hl : ls.length + (exprW t).length ≤ 4398046511104) :
  Calls Tryz.prog 25 ([.pointer (some ⟨b0, 0, none⟩), .agg t.cs] : List Value).toArray w fun e w' => ∃ v', e = .returned (.tuple #[]) ∧ w'.heap[b0]? = some (.cells #[v'] 68) ∧ OwnS 9 w' v' (ls ++ exprW t) ∧ Fr (fun k => k = b0 ∨ some k = v.ownBlock) w w' ∧ Moved w v v' := by
 have hSge := ws_ge hbg gO
 have hM := Moved.refl w v
 have hkl := ht.kidsAt.lenL
 have hR := Fr.refl (fun k => k = b0 ∨ some k = v.ownBlock) w
 have hB := hB0
 refine At.enter (N := 166) Tryz.func25 rfl rfl (by simp) [(0, .pointer (some ⟨b0, 0, none⟩)), (1, .agg t.cs)] (by simp) ?_
 refine At.seq ?_
 refine At.region ?_
 refine At.box rfl rfl (fun b1 w1 F1 => ?_)
 have n_b0_b1 : b0 ≠ b1 := Nat.ne_of_lt (F1.lt hb0)
 have gb1 := Nat.le_trans hR.size (Nat.le_of_eq F1.eq.symm)
 replace hb0 := F1.old hb0
 replace hO := hO.fresh F1
 have hb1 : w1.heap[b1]? = some (.cells #[.pointer (some ⟨b0, 0, none⟩)] 64) := F1.new
 replace hR := hR.freshF F1
 replace hB := Fr.below hR hB0 hB0.size hSge
 refine At.box rfl rfl (fun b2 w2 F2 => ?_)
 have n_b0_b2 : b0 ≠ b2 := Nat.ne_of_lt (F2.lt hb0)
 have n_b1_b2 : b1 ≠ b2 := Nat.ne_of_lt (F2.lt hb1)
 have gb2 := Nat.le_trans hR.size (Nat.le_of_eq F2.eq.symm)
 replace hb0 := F2.old hb0
 replace hb1 := F2.old hb1
 replace hO := hO.fresh F2
 have hb2 : w2.heap[b2]? = some (.cells t.cs 33) := F2.new
 replace hR := hR.freshF F2
 replace hB := Fr.below hR hB0 hB0.size hSge
 refine At.ops0 ?_
 refine At.thenN ?_
 refine At.seq ?_
 refine At.region ?_
 refine At.makeFunc rfl rfl ?_
 refine At.assign rfl rfl ?_
 refine At.ops0 ?_
 refine At.thenN ?_
 refine At.seq ?_
 refine At.region ?_
 refine At.makeFunc rfl rfl ?_
 refine At.assign rfl rfl ?_
 refine At.ops0 ?_
 refine At.thenN ?_
 refine At.seq ?_
 refine At.region ?_
 refine At.fieldAddr rfl fo33_0 rfl ?_
 refine At.load rfl (Ld.ownCell ag3 hb2 (ht).c0) rfl ?_
 refine At.ops0 ?_
 refine At.thenN ?_
 refine At.block ?_
 refine At.seq ?_
 refine At.region ?_
 refine At.eqI rfl rfl rfl ?_
 refine At.assign rfl rfl ?_
 refine At.ops0 ?_
 refine At.thenN ?_
 refine At.cond (b := decide (t.k = 5)) rfl (fun hc1 => ?_) (fun hc1 => ?_)
 ·skip
  have hc1' := of_decide_eq_true hc1
  refine At.seq ?_
  have hkk := hr.k5 hc1'
  have hw := exprW_5 hc1'
  rw [hw] at hl
  obtain ⟨u0, hu0⟩ := some_of_lt (l := t.kids) (i := 0) (by omega)
  skip
  refine At.drawG (n := 7) mixed (by kernel_rfl) rfl (PanicOk.then (PanicOk.block PanicOk.body)) ?_
  have hR := Fr.drewF hR
  have hB := Below.drewB hB
  have hb0 : _ := (show w2.drew.heap[b0]? = _ from hb0)
  have hb1 : _ := (show w2.drew.heap[b1]? = _ from hb1)
  have hb2 : _ := (show w2.drew.heap[b2]? = _ from hb2)
  have hO := hO.drew
  refine At.wpcS (i := 0) (d := 15) (.pointer (some ⟨b0, 0, none⟩)) (by kernel_rfl) rfl rfl rfl (fun Lx => ?_) ?_
  ·skip
   refine At.load rfl (Ld.ownCell ag64 hb1 rfl) rfl ?_
   refine At.ops0 ?_
   exact fun a ha => ⟨ha, rfl⟩
  refine At.wpcS (i := 1) (d := 16) (.pointer (some ⟨b0, 0, none⟩)) (by kernel_rfl) rfl rfl rfl (fun Lx => ?_) ?_
  ·skip
   refine At.nilCheck rfl rfl ?_
   refine At.ops0 ?_
   exact fun a ha => ⟨ha, rfl⟩
  refine At.wpcS (i := 2) (d := 17) (.pointer (some ⟨b0, 0 + 0, none⟩)) (by kernel_rfl) rfl rfl rfl (fun Lx => ?_) ?_
  ·skip
   refine At.fieldAddr rfl fo68_0 rfl ?_
   refine At.ops0 ?_
   exact fun a ha => ⟨ha, rfl⟩
  refine At.wpcS (i := 3) (d := 18) (.pointer (some ⟨b2, 0 + 2, none⟩)) (by kernel_rfl) rfl rfl rfl (fun Lx => ?_) ?_
  ·skip
   refine At.fieldAddr rfl fo33_2 rfl ?_
   refine At.ops0 ?_
   exact fun a ha => ⟨ha, rfl⟩
  refine At.wpcS (i := 4) (d := 19) (.string t.nm) (by kernel_rfl) rfl rfl rfl (fun Lx => ?_) ?_
  ·skip
   refine At.load rfl (Ld.ownCell ag9 hb2 (ht).c2) rfl ?_
   refine At.ops0 ?_
   exact fun a ha => ⟨ha, rfl⟩
  refine At.wpcE [5] (by kernel_rfl) (by kernel_rfl) (.cons [0, 1, 2] rfl (by kernel_rfl) ?_ .nil)
  refine At.buildSlice (xs := [.const (.string (⟨#[102, 117, 110]⟩ : ByteArray)), .tmp 19]) rfl rfl el27 sz9 ze9 (by intro v hv; simp only [List.mem_cons, List.not_mem_nil, or_false] at hv; rcases hv with rfl | rfl <;> first | rfl | simp [Value.cells, Value.cells]) rfl (by decide) rfl (fun b3 w3 F3 => ?_)
  have q_hO_b3 : some b3 ≠ Value.ownBlock v := Own.neFresh hO F3
  have n_b0_b3 : b0 ≠ b3 := Nat.ne_of_lt (F3.lt hb0)
  have n_b1_b3 : b1 ≠ b3 := Nat.ne_of_lt (F3.lt hb1)
  have n_b2_b3 : b2 ≠ b3 := Nat.ne_of_lt (F3.lt hb2)
  have gb3 := Nat.le_trans hR.size (Nat.le_of_eq F3.eq.symm)
  replace hb0 := F3.old hb0
  replace hb1 := F3.old hb1
  replace hb2 := F3.old hb2
  replace hO := hO.fresh F3
  have hb3 : w3.heap[b3]? = some (.cells #[.string (⟨#[102, 117, 110]⟩ : ByteArray), .string t.nm] 9) := F3.new
  replace hR := hR.freshF F3
  replace hB := Fr.below hR hB0 hB0.size hSge
  refine At.ops0 ?_
  refine At.wpcN (.cons rfl rfl rfl rfl (fun Lx => ?_) (.cons rfl rfl rfl rfl (fun Lx => ?_) (.cons rfl rfl rfl rfl (fun Lx => ?_) .nil))) ?_
  ·skip
   refine At.load rfl (Ld.ownCell ag64 hb1 rfl) rfl ?_
   refine At.ops0 ?_
   exact fun a ha => ⟨ha, rfl⟩
  ·skip
   refine At.nilCheck rfl rfl ?_
   refine At.ops0 ?_
   exact fun a ha => ⟨ha, rfl⟩
  ·skip
   refine At.fieldAddr rfl fo68_0 rfl ?_
   refine At.ops0 ?_
   exact fun a ha => ⟨ha, rfl⟩
  refine At.wpcE [6] (by kernel_rfl) (by kernel_rfl) (.cons [] rfl (by kernel_rfl) ?_ .nil)
  have hsz1 := hR.size
  refine At.call en20 rfl rfl (add_any b0 v ls (.slice (some ⟨b3, 0, none⟩) 2 2) ([(⟨#[102, 117, 110]⟩ : ByteArray), t.nm]) w0 _ hB hbg gO hb0 hO (StrsAt.own (ss := [(⟨#[102, 117, 110]⟩ : ByteArray), t.nm]) hb3 rfl (by decide) : StrsAt _ (.slice (some ⟨b3, 0, none⟩) 2 2) [(⟨#[102, 117, 110]⟩ : ByteArray), t.nm]) (by first | omega | (simp only [List.length_append, List.length_cons, List.length_nil] at hl ⊢; omega) | (simp only [List.length_append, List.length_cons, List.length_nil, eK_at hu0, aK_at hu0] at hl ⊢; omega) | (simp only [List.length_append, List.length_cons, List.length_nil, aK_at hu0, aK_at hu1] at hl ⊢; omega) | (rw [kK_at hu0] at hl; split at hl <;> simp only [List.length_append, List.length_cons, List.length_nil, eK_at hu0, aK_at hu0, aK_at hu1] at hl ⊢ <;> omega))) (fun e w4 hR' => ?_)
  obtain ⟨va1, rfl, hb0', hO1, hF1, hMn1⟩ := hR'
  refine ⟨_, rfl, ?_⟩
  have nn_b1 : ¬ (b1 = b0 ∨ some b1 = Value.ownBlock v) := fun e => e.elim (Ne.symm n_b0_b1) (hO.neT hb1 rfl)
  replace hb1 := hF1.old _ _ nn_b1 hb1
  have nn_b2 : ¬ (b2 = b0 ∨ some b2 = Value.ownBlock v) := fun e => e.elim (Ne.symm n_b0_b2) (hO.neT hb2 rfl)
  replace hb2 := hF1.old _ _ nn_b2 hb2
  have nn_b3 : ¬ (b3 = b0 ∨ some b3 = Value.ownBlock v) := fun e => e.elim (Ne.symm n_b0_b3) q_hO_b3
  replace hb3 := hF1.old _ _ nn_b3 hb3
  replace hb0 := hb0'
  have ghO1 := hMn1.ge (Nat.le_trans hB0.size hR.size) gO
  replace hR := Fr.then hR hF1 (ws_sub hM)
  replace hM := Moved.then hM (Nat.le_trans (Nat.le_refl _) hsz1) hMn1
  replace hB := Fr.below hR hB0 hB0.size hSge
  refine At.ops0 ?_
  refine At.wpcN .nil ?_
  refine At.wpcZ ?_
  refine At.thenN ?_
  refine At.region ?_
  refine At.move rfl rfl ?_
  refine At.buildSlice (xs := [.const (.string (⟨#[45, 62]⟩ : ByteArray))]) rfl rfl el27 sz9 ze9 (by intro v hv; simp only [List.mem_cons, List.not_mem_nil, or_false] at hv; rcases hv with rfl <;> first | rfl | simp [Value.cells, Value.cells]) rfl (by decide) rfl (fun b4 w5 F4 => ?_)
  have q_hO1_b4 : some b4 ≠ Value.ownBlock va1 := Own.neFresh hO1 F4
  have n_b0_b4 : b0 ≠ b4 := Nat.ne_of_lt (F4.lt hb0)
  have n_b1_b4 : b1 ≠ b4 := Nat.ne_of_lt (F4.lt hb1)
  have n_b2_b4 : b2 ≠ b4 := Nat.ne_of_lt (F4.lt hb2)
  have n_b3_b4 : b3 ≠ b4 := Nat.ne_of_lt (F4.lt hb3)
  have gb4 := Nat.le_trans hR.size (Nat.le_of_eq F4.eq.symm)
  replace hb0 := F4.old hb0
  replace hb1 := F4.old hb1
  replace hb2 := F4.old hb2
  replace hb3 := F4.old hb3
  replace hO1 := hO1.fresh F4
  have hb4 : w5.heap[b4]? = some (.cells #[.string (⟨#[45, 62]⟩ : ByteArray)] 9) := F4.new
  replace hR := hR.freshF F4
  replace hB := Fr.below hR hB0 hB0.size hSge
  have hsz2 := hR.size
  refine At.callV rfl en49 rfl rfl (parts_any b0 va1 (ls ++ [(⟨#[102, 117, 110]⟩ : ByteArray), t.nm]) w0 t b1 b2 (.slice (some ⟨b4, 0, none⟩) 1 1) [(⟨#[45, 62]⟩ : ByteArray)] _ hB hbg ghO1 hb0 hO1 ht hb1 hb2 n_b0_b1 n_b0_b2 n_b1_b2 (StrsAt.own (ss := [(⟨#[45, 62]⟩ : ByteArray)]) hb4 rfl (by decide) : StrsAt _ (.slice (some ⟨b4, 0, none⟩) 1 1) [(⟨#[45, 62]⟩ : ByteArray)]) (fun _ e => e.elim (Ne.symm n_b0_b4) (q_hO1_b4)) (by simp only [List.length_cons, List.length_nil]; omega) (fun i u _ hu => hke u (List.mem_of_getElem? hu)) (show _ + (ptN [(⟨#[45, 62]⟩ : ByteArray)] (eK (eaL t.kids)) 1).length ≤ _ by first | omega | (simp only [List.length_append, List.length_cons, List.length_nil] at hl ⊢; omega) | (simp only [List.length_append, List.length_cons, List.length_nil, eK_at hu0, aK_at hu0] at hl ⊢; omega) | (simp only [List.length_append, List.length_cons, List.length_nil, aK_at hu0, aK_at hu1] at hl ⊢; omega) | (rw [kK_at hu0] at hl; split at hl <;> simp only [List.length_append, List.length_cons, List.length_nil, eK_at hu0, aK_at hu0, aK_at hu1] at hl ⊢ <;> omega))) (fun e w6 hR' => ?_)
  obtain ⟨va2, rfl, hb0', hO2, hF2, hMn2⟩ := hR'
  refine ⟨_, rfl, ?_⟩
  have nn_b1 : ¬ (b1 = b0 ∨ some b1 = Value.ownBlock va1) := fun e => e.elim (Ne.symm n_b0_b1) (hO1.neT hb1 rfl)
  replace hb1 := hF2.old _ _ nn_b1 hb1
  have nn_b2 : ¬ (b2 = b0 ∨ some b2 = Value.ownBlock va1) := fun e => e.elim (Ne.symm n_b0_b2) (hO1.neT hb2 rfl)
  replace hb2 := hF2.old _ _ nn_b2 hb2
  clear hb3
  have nn_b4 : ¬ (b4 = b0 ∨ some b4 = Value.ownBlock va1) := fun e => e.elim (Ne.symm n_b0_b4) q_hO1_b4
  replace hb4 := hF2.old _ _ nn_b4 hb4
  replace hb0 := hb0'
  have ghO2 := hMn2.ge (Nat.le_trans hB0.size hR.size) ghO1
  replace hR := Fr.then hR hF2 (ws_sub hM)
  replace hM := Moved.then hM (Nat.le_trans (Nat.le_refl _) hsz2) hMn2
  replace hB := Fr.below hR hB0 hB0.size hSge
  refine At.ops0 ?_
  refine At.inN ?_
  refine At.doneN (ResV.nil) ?_
  have hq : ((ls ++ [(⟨#[102, 117, 110]⟩ : ByteArray), t.nm]) ++ (ptN [(⟨#[45, 62]⟩ : ByteArray)] (eK (eaL t.kids)) 1)) = ls ++ exprW t := by rw [hw] <;> simp [eK_at hu0, aK_at hu0, kK_at hu0]
  exact ⟨va2, rfl, hb0, hq ▸ hO2, hR, hM⟩
 ·skip
  have hc1' := of_decide_eq_false hc1
  refine At.seq ?_
  refine At.region ?_
  refine At.eqI rfl rfl rfl ?_
  refine At.assign rfl rfl ?_
  refine At.ops0 ?_
  refine At.thenN ?_
  refine At.cond (b := decide (t.k = 6)) rfl (fun hc2 => ?_) (fun hc2 => ?_)
  ·skip
   have hc2' := of_decide_eq_true hc2
   refine At.seq ?_
   refine At.seq ?_
   have hkk := hr.k6 hc2'
   have hw := exprW_6 hc2'
   rw [hw] at hl
   obtain ⟨u0, hu0⟩ := some_of_lt (l := t.kids) (i := 0) (by omega)
   obtain ⟨u1, hu1⟩ := some_of_lt (l := t.kids) (i := 1) (by omega)
   have hlk := hl; simp only [eK_at hu0, eK_at hu1, aK_at hu0, aK_at hu1, kK_at hu0, kK_at hu1] at hlk
   refine At.region ?_
   refine At.fieldAddr rfl fo33_5 rfl ?_
   refine At.load rfl (Ld.ownCell ag24 hb2 (ht).c5) rfl ?_
   refine At.indexAddr (i := 0) rfl rfl ((ht).kidsAt).okL (lt_of_some hu0) el24 sz33 rfl ?_
   refine At.fieldAddr rfl fo33_0 rfl ?_
   refine At.load rfl (Ld.cell ag3 (cell_keep ((((ht).kidsAt).row hu0).get (((ht).kid hu0)).c0) hB)) rfl ?_
   refine At.eqI rfl rfl rfl ?_
   refine At.ops0 ?_
   refine At.thenN ?_
   refine At.cond (b := decide (u0.k = 6)) rfl (fun hc3 => ?_) (fun hc3 => ?_)
   ·skip
    have hc3' := of_decide_eq_true hc3
    refine At.drawG (n := 6) mixed (by kernel_rfl) rfl (PanicOk.then (PanicOk.block PanicOk.body)) ?_
    have hR := Fr.drewF hR
    have hB := Below.drewB hB
    have hb0 : _ := (show w2.drew.heap[b0]? = _ from hb0)
    have hb1 : _ := (show w2.drew.heap[b1]? = _ from hb1)
    have hb2 : _ := (show w2.drew.heap[b2]? = _ from hb2)
    have hO := hO.drew
    refine At.wpcS (i := 0) (d := 33) (.pointer (some ⟨b0, 0, none⟩)) (by kernel_rfl) rfl rfl rfl (fun Lx => ?_) ?_
    ·skip
     refine At.load rfl (Ld.ownCell ag64 hb1 rfl) rfl ?_
     refine At.ops0 ?_
     exact fun a ha => ⟨ha, rfl⟩
    refine At.wpcS (i := 1) (d := 34) (.pointer (some ⟨b2, 0 + 5, none⟩)) (by kernel_rfl) rfl rfl rfl (fun Lx => ?_) ?_
    ·skip
     refine At.fieldAddr rfl fo33_5 rfl ?_
     refine At.ops0 ?_
     exact fun a ha => ⟨ha, rfl⟩
    refine At.wpcS (i := 2) (d := 35) (t.kv) (by kernel_rfl) rfl rfl rfl (fun Lx => ?_) ?_
    ·skip
     refine At.load rfl (Ld.ownCell ag24 hb2 (ht).c5) rfl ?_
     refine At.ops0 ?_
     exact fun a ha => ⟨ha, rfl⟩
    refine At.wpcS (i := 3) (d := 36) (.pointer (some ⟨vBlock t.kv, vOff t.kv + 0 * 21, none⟩)) (by kernel_rfl) rfl rfl rfl (fun Lx => ?_) ?_
    ·skip
     refine At.indexAddr (i := 0) rfl rfl ((ht).kidsAt).okL (lt_of_some hu0) el24 sz33 rfl ?_
     refine At.ops0 ?_
     exact fun a ha => ⟨ha, rfl⟩
    refine At.wpcS (i := 4) (d := 37) (.agg u0.cs) (by kernel_rfl) rfl rfl rfl (fun Lx => ?_) ?_
    ·skip
     refine At.load rfl (Ld.row ag33 (sz33.trans (congrArg some (((ht).kid hu0)).size.symm)) ((((ht).kidsAt).row hu0).keep hB)) rfl ?_
     refine At.ops0 ?_
     exact fun a ha => ⟨ha, rfl⟩
    refine At.wpcE [5] (by kernel_rfl) (by kernel_rfl) (.cons [] rfl (by kernel_rfl) ?_ .nil)
    have hsz3 := hR.size
    refine At.call en25 rfl rfl ((hke u0 (List.mem_of_getElem? hu0)) v ls _ hB hbg gO hb0 hO (by first | omega | (simp only [List.length_append, List.length_cons, List.length_nil] at hl ⊢; omega) | (simp only [List.length_append, List.length_cons, List.length_nil, eK_at hu0, aK_at hu0] at hl ⊢; omega) | (simp only [List.length_append, List.length_cons, List.length_nil, aK_at hu0, aK_at hu1] at hl ⊢; omega) | (rw [kK_at hu0] at hl; split at hl <;> simp only [List.length_append, List.length_cons, List.length_nil, eK_at hu0, aK_at hu0, aK_at hu1] at hl ⊢ <;> omega))) (fun e w7 hR' => ?_)
    obtain ⟨va3, rfl, hb0', hO3, hF3, hMn3⟩ := hR'
    refine ⟨_, rfl, ?_⟩
    have nn_b1 : ¬ (b1 = b0 ∨ some b1 = Value.ownBlock v) := fun e => e.elim (Ne.symm n_b0_b1) (hO.neT hb1 rfl)
    replace hb1 := hF3.old _ _ nn_b1 hb1
    have nn_b2 : ¬ (b2 = b0 ∨ some b2 = Value.ownBlock v) := fun e => e.elim (Ne.symm n_b0_b2) (hO.neT hb2 rfl)
    replace hb2 := hF3.old _ _ nn_b2 hb2
    replace hb0 := hb0'
    have ghO3 := hMn3.ge (Nat.le_trans hB0.size hR.size) gO
    replace hR := Fr.then hR hF3 (ws_sub hM)
    replace hM := Moved.then hM (Nat.le_trans (Nat.le_refl _) hsz3) hMn3
    replace hB := Fr.below hR hB0 hB0.size hSge
    refine At.ops0 ?_
    refine At.wpcN .nil ?_
    refine At.wpcZ ?_
    refine At.thenN ?_
    refine At.drawG (n := 6) mixed (by kernel_rfl) rfl (PanicOk.block PanicOk.body) ?_
    have hR := Fr.drewF hR
    have hB := Below.drewB hB
    have hb0 : _ := (show w7.drew.heap[b0]? = _ from hb0)
    have hb1 : _ := (show w7.drew.heap[b1]? = _ from hb1)
    have hb2 : _ := (show w7.drew.heap[b2]? = _ from hb2)
    have hO3 := hO3.drew
    refine At.wpcS (i := 0) (d := 45) (.pointer (some ⟨b0, 0, none⟩)) (by kernel_rfl) rfl rfl rfl (fun Lx => ?_) ?_
    ·skip
     refine At.load rfl (Ld.ownCell ag64 hb1 rfl) rfl ?_
     refine At.ops0 ?_
     exact fun a ha => ⟨ha, rfl⟩
    refine At.wpcS (i := 1) (d := 46) (.pointer (some ⟨b2, 0 + 5, none⟩)) (by kernel_rfl) rfl rfl rfl (fun Lx => ?_) ?_
    ·skip
     refine At.fieldAddr rfl fo33_5 rfl ?_
     refine At.ops0 ?_
     exact fun a ha => ⟨ha, rfl⟩
    refine At.wpcS (i := 2) (d := 47) (t.kv) (by kernel_rfl) rfl rfl rfl (fun Lx => ?_) ?_
    ·skip
     refine At.load rfl (Ld.ownCell ag24 hb2 (ht).c5) rfl ?_
     refine At.ops0 ?_
     exact fun a ha => ⟨ha, rfl⟩
    refine At.wpcS (i := 3) (d := 48) (.pointer (some ⟨vBlock t.kv, vOff t.kv + 1 * 21, none⟩)) (by kernel_rfl) rfl rfl rfl (fun Lx => ?_) ?_
    ·skip
     refine At.indexAddr (i := 1) rfl rfl ((ht).kidsAt).okL (lt_of_some hu1) el24 sz33 rfl ?_
     refine At.ops0 ?_
     exact fun a ha => ⟨ha, rfl⟩
    refine At.wpcS (i := 4) (d := 49) (.agg u1.cs) (by kernel_rfl) rfl rfl rfl (fun Lx => ?_) ?_
    ·skip
     refine At.load rfl (Ld.row ag33 (sz33.trans (congrArg some (((ht).kid hu1)).size.symm)) ((((ht).kidsAt).row hu1).keep hB)) rfl ?_
     refine At.ops0 ?_
     exact fun a ha => ⟨ha, rfl⟩
    refine At.wpcE [5] (by kernel_rfl) (by kernel_rfl) (.cons [] rfl (by kernel_rfl) ?_ .nil)
    have hsz4 := hR.size
    refine At.call en50 rfl rfl ((hka u1 (List.mem_of_getElem? hu1)) va3 (ls ++ (exprW u0)) _ hB hbg ghO3 hb0 hO3 (by first | omega | (simp only [List.length_append, List.length_cons, List.length_nil] at hl ⊢; omega) | (simp only [List.length_append, List.length_cons, List.length_nil, eK_at hu0, aK_at hu0] at hl ⊢; omega) | (simp only [List.length_append, List.length_cons, List.length_nil, aK_at hu0, aK_at hu1] at hl ⊢; omega) | (rw [kK_at hu0] at hl; split at hl <;> simp only [List.length_append, List.length_cons, List.length_nil, eK_at hu0, aK_at hu0, aK_at hu1] at hl ⊢ <;> omega))) (fun e w8 hR' => ?_)
    obtain ⟨va4, rfl, hb0', hO4, hF4, hMn4⟩ := hR'
    refine ⟨_, rfl, ?_⟩
    have nn_b1 : ¬ (b1 = b0 ∨ some b1 = Value.ownBlock va3) := fun e => e.elim (Ne.symm n_b0_b1) (hO3.neT hb1 rfl)
    replace hb1 := hF4.old _ _ nn_b1 hb1
    have nn_b2 : ¬ (b2 = b0 ∨ some b2 = Value.ownBlock va3) := fun e => e.elim (Ne.symm n_b0_b2) (hO3.neT hb2 rfl)
    replace hb2 := hF4.old _ _ nn_b2 hb2
    replace hb0 := hb0'
    have ghO4 := hMn4.ge (Nat.le_trans hB0.size hR.size) ghO3
    replace hR := Fr.then hR hF4 (ws_sub hM)
    replace hM := Moved.then hM (Nat.le_trans (Nat.le_refl _) hsz4) hMn4
    replace hB := Fr.below hR hB0 hB0.size hSge
    refine At.ops0 ?_
    refine At.wpcN .nil ?_
    refine At.wpcZ ?_
    refine At.inN ?_
    refine At.doneN (ResV.nil) ?_
    have hq : ((ls ++ (exprW u0)) ++ (atomW u1)) = ls ++ exprW t := by rw [hw, kK_at hu0, if_pos hc3', eK_at hu0, aK_at hu1]; simp
    exact ⟨va4, rfl, hb0, hq ▸ hO4, hR, hM⟩
   ·skip
    have hc3' := of_decide_eq_false hc3
    refine At.drawG (n := 6) mixed (by kernel_rfl) rfl (PanicOk.then (PanicOk.block PanicOk.body)) ?_
    have hR := Fr.drewF hR
    have hB := Below.drewB hB
    have hb0 : _ := (show w2.drew.heap[b0]? = _ from hb0)
    have hb1 : _ := (show w2.drew.heap[b1]? = _ from hb1)
    have hb2 : _ := (show w2.drew.heap[b2]? = _ from hb2)
    have hO := hO.drew
    refine At.wpcS (i := 0) (d := 39) (.pointer (some ⟨b0, 0, none⟩)) (by kernel_rfl) rfl rfl rfl (fun Lx => ?_) ?_
    ·skip
     refine At.load rfl (Ld.ownCell ag64 hb1 rfl) rfl ?_
     refine At.ops0 ?_
     exact fun a ha => ⟨ha, rfl⟩
    refine At.wpcS (i := 1) (d := 40) (.pointer (some ⟨b2, 0 + 5, none⟩)) (by kernel_rfl) rfl rfl rfl (fun Lx => ?_) ?_
    ·skip
     refine At.fieldAddr rfl fo33_5 rfl ?_
     refine At.ops0 ?_
     exact fun a ha => ⟨ha, rfl⟩
    refine At.wpcS (i := 2) (d := 41) (t.kv) (by kernel_rfl) rfl rfl rfl (fun Lx => ?_) ?_
    ·skip
     refine At.load rfl (Ld.ownCell ag24 hb2 (ht).c5) rfl ?_
     refine At.ops0 ?_
     exact fun a ha => ⟨ha, rfl⟩
    refine At.wpcS (i := 3) (d := 42) (.pointer (some ⟨vBlock t.kv, vOff t.kv + 0 * 21, none⟩)) (by kernel_rfl) rfl rfl rfl (fun Lx => ?_) ?_
    ·skip
     refine At.indexAddr (i := 0) rfl rfl ((ht).kidsAt).okL (lt_of_some hu0) el24 sz33 rfl ?_
     refine At.ops0 ?_
     exact fun a ha => ⟨ha, rfl⟩
    refine At.wpcS (i := 4) (d := 43) (.agg u0.cs) (by kernel_rfl) rfl rfl rfl (fun Lx => ?_) ?_
    ·skip
     refine At.load rfl (Ld.row ag33 (sz33.trans (congrArg some (((ht).kid hu0)).size.symm)) ((((ht).kidsAt).row hu0).keep hB)) rfl ?_
     refine At.ops0 ?_
     exact fun a ha => ⟨ha, rfl⟩
    refine At.wpcE [5] (by kernel_rfl) (by kernel_rfl) (.cons [] rfl (by kernel_rfl) ?_ .nil)
    have hsz5 := hR.size
    refine At.call en50 rfl rfl ((hka u0 (List.mem_of_getElem? hu0)) v ls _ hB hbg gO hb0 hO (by first | omega | (simp only [List.length_append, List.length_cons, List.length_nil] at hl ⊢; omega) | (simp only [List.length_append, List.length_cons, List.length_nil, eK_at hu0, aK_at hu0] at hl ⊢; omega) | (simp only [List.length_append, List.length_cons, List.length_nil, aK_at hu0, aK_at hu1] at hl ⊢; omega) | (rw [kK_at hu0] at hl; split at hl <;> simp only [List.length_append, List.length_cons, List.length_nil, eK_at hu0, aK_at hu0, aK_at hu1] at hl ⊢ <;> omega))) (fun e w9 hR' => ?_)
    obtain ⟨va5, rfl, hb0', hO5, hF5, hMn5⟩ := hR'
    refine ⟨_, rfl, ?_⟩
    have nn_b1 : ¬ (b1 = b0 ∨ some b1 = Value.ownBlock v) := fun e => e.elim (Ne.symm n_b0_b1) (hO.neT hb1 rfl)
    replace hb1 := hF5.old _ _ nn_b1 hb1
    have nn_b2 : ¬ (b2 = b0 ∨ some b2 = Value.ownBlock v) := fun e => e.elim (Ne.symm n_b0_b2) (hO.neT hb2 rfl)
    replace hb2 := hF5.old _ _ nn_b2 hb2
    replace hb0 := hb0'
    have ghO5 := hMn5.ge (Nat.le_trans hB0.size hR.size) gO
    replace hR := Fr.then hR hF5 (ws_sub hM)
    replace hM := Moved.then hM (Nat.le_trans (Nat.le_refl _) hsz5) hMn5
    replace hB := Fr.below hR hB0 hB0.size hSge
    refine At.ops0 ?_
    refine At.wpcN .nil ?_
    refine At.wpcZ ?_
    refine At.thenN ?_
    refine At.drawG (n := 6) mixed (by kernel_rfl) rfl (PanicOk.block PanicOk.body) ?_
    have hR := Fr.drewF hR
    have hB := Below.drewB hB
    have hb0 : _ := (show w9.drew.heap[b0]? = _ from hb0)
    have hb1 : _ := (show w9.drew.heap[b1]? = _ from hb1)
    have hb2 : _ := (show w9.drew.heap[b2]? = _ from hb2)
    have hO5 := hO5.drew
    refine At.wpcS (i := 0) (d := 45) (.pointer (some ⟨b0, 0, none⟩)) (by kernel_rfl) rfl rfl rfl (fun Lx => ?_) ?_
    ·skip
     refine At.load rfl (Ld.ownCell ag64 hb1 rfl) rfl ?_
     refine At.ops0 ?_
     exact fun a ha => ⟨ha, rfl⟩
    refine At.wpcS (i := 1) (d := 46) (.pointer (some ⟨b2, 0 + 5, none⟩)) (by kernel_rfl) rfl rfl rfl (fun Lx => ?_) ?_
    ·skip
     refine At.fieldAddr rfl fo33_5 rfl ?_
     refine At.ops0 ?_
     exact fun a ha => ⟨ha, rfl⟩
    refine At.wpcS (i := 2) (d := 47) (t.kv) (by kernel_rfl) rfl rfl rfl (fun Lx => ?_) ?_
    ·skip
     refine At.load rfl (Ld.ownCell ag24 hb2 (ht).c5) rfl ?_
     refine At.ops0 ?_
     exact fun a ha => ⟨ha, rfl⟩
    refine At.wpcS (i := 3) (d := 48) (.pointer (some ⟨vBlock t.kv, vOff t.kv + 1 * 21, none⟩)) (by kernel_rfl) rfl rfl rfl (fun Lx => ?_) ?_
    ·skip
     refine At.indexAddr (i := 1) rfl rfl ((ht).kidsAt).okL (lt_of_some hu1) el24 sz33 rfl ?_
     refine At.ops0 ?_
     exact fun a ha => ⟨ha, rfl⟩
    refine At.wpcS (i := 4) (d := 49) (.agg u1.cs) (by kernel_rfl) rfl rfl rfl (fun Lx => ?_) ?_
    ·skip
     refine At.load rfl (Ld.row ag33 (sz33.trans (congrArg some (((ht).kid hu1)).size.symm)) ((((ht).kidsAt).row hu1).keep hB)) rfl ?_
     refine At.ops0 ?_
     exact fun a ha => ⟨ha, rfl⟩
    refine At.wpcE [5] (by kernel_rfl) (by kernel_rfl) (.cons [] rfl (by kernel_rfl) ?_ .nil)
    have hsz6 := hR.size
    refine At.call en50 rfl rfl ((hka u1 (List.mem_of_getElem? hu1)) va5 (ls ++ (atomW u0)) _ hB hbg ghO5 hb0 hO5 (by first | omega | (simp only [List.length_append, List.length_cons, List.length_nil] at hl ⊢; omega) | (simp only [List.length_append, List.length_cons, List.length_nil, eK_at hu0, aK_at hu0] at hl ⊢; omega) | (simp only [List.length_append, List.length_cons, List.length_nil, aK_at hu0, aK_at hu1] at hl ⊢; omega) | (rw [kK_at hu0] at hl; split at hl <;> simp only [List.length_append, List.length_cons, List.length_nil, eK_at hu0, aK_at hu0, aK_at hu1] at hl ⊢ <;> omega))) (fun e w10 hR' => ?_)
    obtain ⟨va6, rfl, hb0', hO6, hF6, hMn6⟩ := hR'
    refine ⟨_, rfl, ?_⟩
    have nn_b1 : ¬ (b1 = b0 ∨ some b1 = Value.ownBlock va5) := fun e => e.elim (Ne.symm n_b0_b1) (hO5.neT hb1 rfl)
    replace hb1 := hF6.old _ _ nn_b1 hb1
    have nn_b2 : ¬ (b2 = b0 ∨ some b2 = Value.ownBlock va5) := fun e => e.elim (Ne.symm n_b0_b2) (hO5.neT hb2 rfl)
    replace hb2 := hF6.old _ _ nn_b2 hb2
    replace hb0 := hb0'
    have ghO6 := hMn6.ge (Nat.le_trans hB0.size hR.size) ghO5
    replace hR := Fr.then hR hF6 (ws_sub hM)
    replace hM := Moved.then hM (Nat.le_trans (Nat.le_refl _) hsz6) hMn6
    replace hB := Fr.below hR hB0 hB0.size hSge
    refine At.ops0 ?_
    refine At.wpcN .nil ?_
    refine At.wpcZ ?_
    refine At.inN ?_
    refine At.doneN (ResV.nil) ?_
    have hq : ((ls ++ (atomW u0)) ++ (atomW u1)) = ls ++ exprW t := by rw [hw, kK_at hu0, if_neg hc3', aK_at hu0, aK_at hu1]; simp
    exact ⟨va6, rfl, hb0, hq ▸ hO6, hR, hM⟩
  ·skip
   have hc2' := of_decide_eq_false hc2
   refine At.seq ?_
   refine At.region ?_
   refine At.eqI rfl rfl rfl ?_
   refine At.assign rfl rfl ?_
   refine At.ops0 ?_
   refine At.thenN ?_
   refine At.cond (b := decide (t.k = 7)) rfl (fun hc4 => ?_) (fun hc4 => ?_)
   ·skip
    have hc4' := of_decide_eq_true hc4
    refine At.seq ?_
    have hkk := hr.k7 hc4'
    have hw := exprW_7 hc4'
    rw [hw] at hl
    obtain ⟨u0, hu0⟩ := some_of_lt (l := t.kids) (i := 0) (by omega)
    obtain ⟨u1, hu1⟩ := some_of_lt (l := t.kids) (i := 1) (by omega)
    skip
    refine At.drawG (n := 7) mixed (by kernel_rfl) rfl (PanicOk.then (PanicOk.block PanicOk.body)) ?_
    have hR := Fr.drewF hR
    have hB := Below.drewB hB
    have hb0 : _ := (show w2.drew.heap[b0]? = _ from hb0)
    have hb1 : _ := (show w2.drew.heap[b1]? = _ from hb1)
    have hb2 : _ := (show w2.drew.heap[b2]? = _ from hb2)
    have hO := hO.drew
    refine At.wpcS (i := 0) (d := 53) (.pointer (some ⟨b0, 0, none⟩)) (by kernel_rfl) rfl rfl rfl (fun Lx => ?_) ?_
    ·skip
     refine At.load rfl (Ld.ownCell ag64 hb1 rfl) rfl ?_
     refine At.ops0 ?_
     exact fun a ha => ⟨ha, rfl⟩
    refine At.wpcS (i := 1) (d := 54) (.pointer (some ⟨b0, 0, none⟩)) (by kernel_rfl) rfl rfl rfl (fun Lx => ?_) ?_
    ·skip
     refine At.nilCheck rfl rfl ?_
     refine At.ops0 ?_
     exact fun a ha => ⟨ha, rfl⟩
    refine At.wpcS (i := 2) (d := 55) (.pointer (some ⟨b0, 0 + 0, none⟩)) (by kernel_rfl) rfl rfl rfl (fun Lx => ?_) ?_
    ·skip
     refine At.fieldAddr rfl fo68_0 rfl ?_
     refine At.ops0 ?_
     exact fun a ha => ⟨ha, rfl⟩
    refine At.wpcS (i := 3) (d := 56) (.pointer (some ⟨b2, 0 + 2, none⟩)) (by kernel_rfl) rfl rfl rfl (fun Lx => ?_) ?_
    ·skip
     refine At.fieldAddr rfl fo33_2 rfl ?_
     refine At.ops0 ?_
     exact fun a ha => ⟨ha, rfl⟩
    refine At.wpcS (i := 4) (d := 57) (.string t.nm) (by kernel_rfl) rfl rfl rfl (fun Lx => ?_) ?_
    ·skip
     refine At.load rfl (Ld.ownCell ag9 hb2 (ht).c2) rfl ?_
     refine At.ops0 ?_
     exact fun a ha => ⟨ha, rfl⟩
    refine At.wpcE [5] (by kernel_rfl) (by kernel_rfl) (.cons [0, 1, 2] rfl (by kernel_rfl) ?_ .nil)
    refine At.buildSlice (xs := [.const (.string (⟨#[108, 101, 116]⟩ : ByteArray)), .tmp 57]) rfl rfl el27 sz9 ze9 (by intro v hv; simp only [List.mem_cons, List.not_mem_nil, or_false] at hv; rcases hv with rfl | rfl <;> first | rfl | simp [Value.cells, Value.cells]) rfl (by decide) rfl (fun b5 w11 F5 => ?_)
    have q_hO_b5 : some b5 ≠ Value.ownBlock v := Own.neFresh hO F5
    have n_b0_b5 : b0 ≠ b5 := Nat.ne_of_lt (F5.lt hb0)
    have n_b1_b5 : b1 ≠ b5 := Nat.ne_of_lt (F5.lt hb1)
    have n_b2_b5 : b2 ≠ b5 := Nat.ne_of_lt (F5.lt hb2)
    have gb5 := Nat.le_trans hR.size (Nat.le_of_eq F5.eq.symm)
    replace hb0 := F5.old hb0
    replace hb1 := F5.old hb1
    replace hb2 := F5.old hb2
    replace hO := hO.fresh F5
    have hb5 : w11.heap[b5]? = some (.cells #[.string (⟨#[108, 101, 116]⟩ : ByteArray), .string t.nm] 9) := F5.new
    replace hR := hR.freshF F5
    replace hB := Fr.below hR hB0 hB0.size hSge
    refine At.ops0 ?_
    refine At.wpcN (.cons rfl rfl rfl rfl (fun Lx => ?_) (.cons rfl rfl rfl rfl (fun Lx => ?_) (.cons rfl rfl rfl rfl (fun Lx => ?_) .nil))) ?_
    ·skip
     refine At.load rfl (Ld.ownCell ag64 hb1 rfl) rfl ?_
     refine At.ops0 ?_
     exact fun a ha => ⟨ha, rfl⟩
    ·skip
     refine At.nilCheck rfl rfl ?_
     refine At.ops0 ?_
     exact fun a ha => ⟨ha, rfl⟩
    ·skip
     refine At.fieldAddr rfl fo68_0 rfl ?_
     refine At.ops0 ?_
     exact fun a ha => ⟨ha, rfl⟩
    refine At.wpcE [6] (by kernel_rfl) (by kernel_rfl) (.cons [] rfl (by kernel_rfl) ?_ .nil)
    have hsz7 := hR.size
    refine At.call en20 rfl rfl (add_any b0 v ls (.slice (some ⟨b5, 0, none⟩) 2 2) ([(⟨#[108, 101, 116]⟩ : ByteArray), t.nm]) w0 _ hB hbg gO hb0 hO (StrsAt.own (ss := [(⟨#[108, 101, 116]⟩ : ByteArray), t.nm]) hb5 rfl (by decide) : StrsAt _ (.slice (some ⟨b5, 0, none⟩) 2 2) [(⟨#[108, 101, 116]⟩ : ByteArray), t.nm]) (by first | omega | (simp only [List.length_append, List.length_cons, List.length_nil] at hl ⊢; omega) | (simp only [List.length_append, List.length_cons, List.length_nil, eK_at hu0, aK_at hu0] at hl ⊢; omega) | (simp only [List.length_append, List.length_cons, List.length_nil, aK_at hu0, aK_at hu1] at hl ⊢; omega) | (rw [kK_at hu0] at hl; split at hl <;> simp only [List.length_append, List.length_cons, List.length_nil, eK_at hu0, aK_at hu0, aK_at hu1] at hl ⊢ <;> omega))) (fun e w12 hR' => ?_)
    obtain ⟨va7, rfl, hb0', hO7, hF7, hMn7⟩ := hR'
    refine ⟨_, rfl, ?_⟩
    have nn_b1 : ¬ (b1 = b0 ∨ some b1 = Value.ownBlock v) := fun e => e.elim (Ne.symm n_b0_b1) (hO.neT hb1 rfl)
    replace hb1 := hF7.old _ _ nn_b1 hb1
    have nn_b2 : ¬ (b2 = b0 ∨ some b2 = Value.ownBlock v) := fun e => e.elim (Ne.symm n_b0_b2) (hO.neT hb2 rfl)
    replace hb2 := hF7.old _ _ nn_b2 hb2
    have nn_b5 : ¬ (b5 = b0 ∨ some b5 = Value.ownBlock v) := fun e => e.elim (Ne.symm n_b0_b5) q_hO_b5
    replace hb5 := hF7.old _ _ nn_b5 hb5
    replace hb0 := hb0'
    have ghO7 := hMn7.ge (Nat.le_trans hB0.size hR.size) gO
    replace hR := Fr.then hR hF7 (ws_sub hM)
    replace hM := Moved.then hM (Nat.le_trans (Nat.le_refl _) hsz7) hMn7
    replace hB := Fr.below hR hB0 hB0.size hSge
    refine At.ops0 ?_
    refine At.wpcN .nil ?_
    refine At.wpcZ ?_
    refine At.thenN ?_
    refine At.region ?_
    refine At.move rfl rfl ?_
    refine At.buildSlice (xs := [.const (.string (⟨#[61]⟩ : ByteArray)), .const (.string (⟨#[105, 110]⟩ : ByteArray))]) rfl rfl el27 sz9 ze9 (by intro v hv; simp only [List.mem_cons, List.not_mem_nil, or_false] at hv; rcases hv with rfl | rfl <;> first | rfl | simp [Value.cells, Value.cells]) rfl (by decide) rfl (fun b6 w13 F6 => ?_)
    have q_hO7_b6 : some b6 ≠ Value.ownBlock va7 := Own.neFresh hO7 F6
    have n_b0_b6 : b0 ≠ b6 := Nat.ne_of_lt (F6.lt hb0)
    have n_b1_b6 : b1 ≠ b6 := Nat.ne_of_lt (F6.lt hb1)
    have n_b2_b6 : b2 ≠ b6 := Nat.ne_of_lt (F6.lt hb2)
    have n_b5_b6 : b5 ≠ b6 := Nat.ne_of_lt (F6.lt hb5)
    have gb6 := Nat.le_trans hR.size (Nat.le_of_eq F6.eq.symm)
    replace hb0 := F6.old hb0
    replace hb1 := F6.old hb1
    replace hb2 := F6.old hb2
    replace hb5 := F6.old hb5
    replace hO7 := hO7.fresh F6
    have hb6 : w13.heap[b6]? = some (.cells #[.string (⟨#[61]⟩ : ByteArray), .string (⟨#[105, 110]⟩ : ByteArray)] 9) := F6.new
    replace hR := hR.freshF F6
    replace hB := Fr.below hR hB0 hB0.size hSge
    have hsz8 := hR.size
    refine At.callV rfl en49 rfl rfl (parts_any b0 va7 (ls ++ [(⟨#[108, 101, 116]⟩ : ByteArray), t.nm]) w0 t b1 b2 (.slice (some ⟨b6, 0, none⟩) 2 2) [(⟨#[61]⟩ : ByteArray), (⟨#[105, 110]⟩ : ByteArray)] _ hB hbg ghO7 hb0 hO7 ht hb1 hb2 n_b0_b1 n_b0_b2 n_b1_b2 (StrsAt.own (ss := [(⟨#[61]⟩ : ByteArray), (⟨#[105, 110]⟩ : ByteArray)]) hb6 rfl (by decide) : StrsAt _ (.slice (some ⟨b6, 0, none⟩) 2 2) [(⟨#[61]⟩ : ByteArray), (⟨#[105, 110]⟩ : ByteArray)]) (fun _ e => e.elim (Ne.symm n_b0_b6) (q_hO7_b6)) (by simp only [List.length_cons, List.length_nil]; omega) (fun i u _ hu => hke u (List.mem_of_getElem? hu)) (show _ + (ptN [(⟨#[61]⟩ : ByteArray), (⟨#[105, 110]⟩ : ByteArray)] (eK (eaL t.kids)) 2).length ≤ _ by first | omega | (simp only [List.length_append, List.length_cons, List.length_nil] at hl ⊢; omega) | (simp only [List.length_append, List.length_cons, List.length_nil, eK_at hu0, aK_at hu0] at hl ⊢; omega) | (simp only [List.length_append, List.length_cons, List.length_nil, aK_at hu0, aK_at hu1] at hl ⊢; omega) | (rw [kK_at hu0] at hl; split at hl <;> simp only [List.length_append, List.length_cons, List.length_nil, eK_at hu0, aK_at hu0, aK_at hu1] at hl ⊢ <;> omega))) (fun e w14 hR' => ?_)
    obtain ⟨va8, rfl, hb0', hO8, hF8, hMn8⟩ := hR'
    refine ⟨_, rfl, ?_⟩
    have nn_b1 : ¬ (b1 = b0 ∨ some b1 = Value.ownBlock va7) := fun e => e.elim (Ne.symm n_b0_b1) (hO7.neT hb1 rfl)
    replace hb1 := hF8.old _ _ nn_b1 hb1
    have nn_b2 : ¬ (b2 = b0 ∨ some b2 = Value.ownBlock va7) := fun e => e.elim (Ne.symm n_b0_b2) (hO7.neT hb2 rfl)
    replace hb2 := hF8.old _ _ nn_b2 hb2
    clear hb5
    have nn_b6 : ¬ (b6 = b0 ∨ some b6 = Value.ownBlock va7) := fun e => e.elim (Ne.symm n_b0_b6) q_hO7_b6
    replace hb6 := hF8.old _ _ nn_b6 hb6
    replace hb0 := hb0'
    have ghO8 := hMn8.ge (Nat.le_trans hB0.size hR.size) ghO7
    replace hR := Fr.then hR hF8 (ws_sub hM)
    replace hM := Moved.then hM (Nat.le_trans (Nat.le_refl _) hsz8) hMn8
    replace hB := Fr.below hR hB0 hB0.size hSge
    refine At.ops0 ?_
    refine At.inN ?_
    refine At.doneN (ResV.nil) ?_
    have hq : ((ls ++ [(⟨#[108, 101, 116]⟩ : ByteArray), t.nm]) ++ (ptN [(⟨#[61]⟩ : ByteArray), (⟨#[105, 110]⟩ : ByteArray)] (eK (eaL t.kids)) 2)) = ls ++ exprW t := by rw [hw] <;> simp [eK_at hu0, aK_at hu0, kK_at hu0, eK_at hu1, aK_at hu1, kK_at hu1]
    exact ⟨va8, rfl, hb0, hq ▸ hO8, hR, hM⟩
   ·skip
    have hc4' := of_decide_eq_false hc4
    refine At.seq ?_
    refine At.region ?_
    refine At.eqI rfl rfl rfl ?_
    refine At.assign rfl rfl ?_
    refine At.ops0 ?_
    refine At.thenN ?_
    refine At.cond (b := decide (t.k = 8)) rfl (fun hc5 => ?_) (fun hc5 => ?_)
    ·skip
     have hc5' := of_decide_eq_true hc5
     refine At.seq ?_
     have hkk := hr.k8 hc5'
     have hw := exprW_8 hc5'
     rw [hw] at hl
     obtain ⟨u0, hu0⟩ := some_of_lt (l := t.kids) (i := 0) (by omega)
     obtain ⟨u1, hu1⟩ := some_of_lt (l := t.kids) (i := 1) (by omega)
     skip
     refine At.drawG (n := 9) mixed (by kernel_rfl) rfl (PanicOk.then (PanicOk.block PanicOk.body)) ?_
     have hR := Fr.drewF hR
     have hB := Below.drewB hB
     have hb0 : _ := (show w2.drew.heap[b0]? = _ from hb0)
     have hb1 : _ := (show w2.drew.heap[b1]? = _ from hb1)
     have hb2 : _ := (show w2.drew.heap[b2]? = _ from hb2)
     have hO := hO.drew
     refine At.wpcS (i := 0) (d := 65) (.pointer (some ⟨b0, 0, none⟩)) (by kernel_rfl) rfl rfl rfl (fun Lx => ?_) ?_
     ·skip
      refine At.load rfl (Ld.ownCell ag64 hb1 rfl) rfl ?_
      refine At.ops0 ?_
      exact fun a ha => ⟨ha, rfl⟩
     refine At.wpcS (i := 1) (d := 66) (.pointer (some ⟨b0, 0, none⟩)) (by kernel_rfl) rfl rfl rfl (fun Lx => ?_) ?_
     ·skip
      refine At.nilCheck rfl rfl ?_
      refine At.ops0 ?_
      exact fun a ha => ⟨ha, rfl⟩
     refine At.wpcS (i := 2) (d := 67) (.pointer (some ⟨b0, 0 + 0, none⟩)) (by kernel_rfl) rfl rfl rfl (fun Lx => ?_) ?_
     ·skip
      refine At.fieldAddr rfl fo68_0 rfl ?_
      refine At.ops0 ?_
      exact fun a ha => ⟨ha, rfl⟩
     refine At.wpcS (i := 3) (d := 68) (.pointer (some ⟨b2, 0 + 2, none⟩)) (by kernel_rfl) rfl rfl rfl (fun Lx => ?_) ?_
     ·skip
      refine At.fieldAddr rfl fo33_2 rfl ?_
      refine At.ops0 ?_
      exact fun a ha => ⟨ha, rfl⟩
     refine At.wpcS (i := 4) (d := 69) (.string t.nm) (by kernel_rfl) rfl rfl rfl (fun Lx => ?_) ?_
     ·skip
      refine At.load rfl (Ld.ownCell ag9 hb2 (ht).c2) rfl ?_
      refine At.ops0 ?_
      exact fun a ha => ⟨ha, rfl⟩
     refine At.wpcS (i := 5) (d := 70) (.pointer (some ⟨b2, 0 + 3, none⟩)) (by kernel_rfl) rfl rfl rfl (fun Lx => ?_) ?_
     ·skip
      refine At.fieldAddr rfl fo33_3 rfl ?_
      refine At.ops0 ?_
      exact fun a ha => ⟨ha, rfl⟩
     refine At.wpcS (i := 6) (d := 71) (.string t.pm) (by kernel_rfl) rfl rfl rfl (fun Lx => ?_) ?_
     ·skip
      refine At.load rfl (Ld.ownCell ag9 hb2 (ht).c3) rfl ?_
      refine At.ops0 ?_
      exact fun a ha => ⟨ha, rfl⟩
     refine At.wpcE [7] (by kernel_rfl) (by kernel_rfl) (.cons [0, 1, 2] rfl (by kernel_rfl) ?_ .nil)
     refine At.buildSlice (xs := [.const (.string (⟨#[114, 101, 99]⟩ : ByteArray)), .tmp 69, .tmp 71]) rfl rfl el27 sz9 ze9 (by intro v hv; simp only [List.mem_cons, List.not_mem_nil, or_false] at hv; rcases hv with rfl | rfl | rfl <;> first | rfl | simp [Value.cells, Value.cells]) rfl (by decide) rfl (fun b7 w15 F7 => ?_)
     have q_hO_b7 : some b7 ≠ Value.ownBlock v := Own.neFresh hO F7
     have n_b0_b7 : b0 ≠ b7 := Nat.ne_of_lt (F7.lt hb0)
     have n_b1_b7 : b1 ≠ b7 := Nat.ne_of_lt (F7.lt hb1)
     have n_b2_b7 : b2 ≠ b7 := Nat.ne_of_lt (F7.lt hb2)
     have gb7 := Nat.le_trans hR.size (Nat.le_of_eq F7.eq.symm)
     replace hb0 := F7.old hb0
     replace hb1 := F7.old hb1
     replace hb2 := F7.old hb2
     replace hO := hO.fresh F7
     have hb7 : w15.heap[b7]? = some (.cells #[.string (⟨#[114, 101, 99]⟩ : ByteArray), .string t.nm, .string t.pm] 9) := F7.new
     replace hR := hR.freshF F7
     replace hB := Fr.below hR hB0 hB0.size hSge
     refine At.ops0 ?_
     refine At.wpcN (.cons rfl rfl rfl rfl (fun Lx => ?_) (.cons rfl rfl rfl rfl (fun Lx => ?_) (.cons rfl rfl rfl rfl (fun Lx => ?_) .nil))) ?_
     ·skip
      refine At.load rfl (Ld.ownCell ag64 hb1 rfl) rfl ?_
      refine At.ops0 ?_
      exact fun a ha => ⟨ha, rfl⟩
     ·skip
      refine At.nilCheck rfl rfl ?_
      refine At.ops0 ?_
      exact fun a ha => ⟨ha, rfl⟩
     ·skip
      refine At.fieldAddr rfl fo68_0 rfl ?_
      refine At.ops0 ?_
      exact fun a ha => ⟨ha, rfl⟩
     refine At.wpcE [8] (by kernel_rfl) (by kernel_rfl) (.cons [] rfl (by kernel_rfl) ?_ .nil)
     have hsz9 := hR.size
     refine At.call en20 rfl rfl (add_any b0 v ls (.slice (some ⟨b7, 0, none⟩) 3 3) ([(⟨#[114, 101, 99]⟩ : ByteArray), t.nm, t.pm]) w0 _ hB hbg gO hb0 hO (StrsAt.own (ss := [(⟨#[114, 101, 99]⟩ : ByteArray), t.nm, t.pm]) hb7 rfl (by decide) : StrsAt _ (.slice (some ⟨b7, 0, none⟩) 3 3) [(⟨#[114, 101, 99]⟩ : ByteArray), t.nm, t.pm]) (by first | omega | (simp only [List.length_append, List.length_cons, List.length_nil] at hl ⊢; omega) | (simp only [List.length_append, List.length_cons, List.length_nil, eK_at hu0, aK_at hu0] at hl ⊢; omega) | (simp only [List.length_append, List.length_cons, List.length_nil, aK_at hu0, aK_at hu1] at hl ⊢; omega) | (rw [kK_at hu0] at hl; split at hl <;> simp only [List.length_append, List.length_cons, List.length_nil, eK_at hu0, aK_at hu0, aK_at hu1] at hl ⊢ <;> omega))) (fun e w16 hR' => ?_)
     obtain ⟨va9, rfl, hb0', hO9, hF9, hMn9⟩ := hR'
     refine ⟨_, rfl, ?_⟩
     have nn_b1 : ¬ (b1 = b0 ∨ some b1 = Value.ownBlock v) := fun e => e.elim (Ne.symm n_b0_b1) (hO.neT hb1 rfl)
     replace hb1 := hF9.old _ _ nn_b1 hb1
     have nn_b2 : ¬ (b2 = b0 ∨ some b2 = Value.ownBlock v) := fun e => e.elim (Ne.symm n_b0_b2) (hO.neT hb2 rfl)
     replace hb2 := hF9.old _ _ nn_b2 hb2
     have nn_b7 : ¬ (b7 = b0 ∨ some b7 = Value.ownBlock v) := fun e => e.elim (Ne.symm n_b0_b7) q_hO_b7
     replace hb7 := hF9.old _ _ nn_b7 hb7
     replace hb0 := hb0'
     have ghO9 := hMn9.ge (Nat.le_trans hB0.size hR.size) gO
     replace hR := Fr.then hR hF9 (ws_sub hM)
     replace hM := Moved.then hM (Nat.le_trans (Nat.le_refl _) hsz9) hMn9
     replace hB := Fr.below hR hB0 hB0.size hSge
     refine At.ops0 ?_
     refine At.wpcN .nil ?_
     refine At.wpcZ ?_
     refine At.thenN ?_
     refine At.region ?_
     refine At.move rfl rfl ?_
     refine At.buildSlice (xs := [.const (.string (⟨#[61]⟩ : ByteArray)), .const (.string (⟨#[105, 110]⟩ : ByteArray))]) rfl rfl el27 sz9 ze9 (by intro v hv; simp only [List.mem_cons, List.not_mem_nil, or_false] at hv; rcases hv with rfl | rfl <;> first | rfl | simp [Value.cells, Value.cells]) rfl (by decide) rfl (fun b8 w17 F8 => ?_)
     have q_hO9_b8 : some b8 ≠ Value.ownBlock va9 := Own.neFresh hO9 F8
     have n_b0_b8 : b0 ≠ b8 := Nat.ne_of_lt (F8.lt hb0)
     have n_b1_b8 : b1 ≠ b8 := Nat.ne_of_lt (F8.lt hb1)
     have n_b2_b8 : b2 ≠ b8 := Nat.ne_of_lt (F8.lt hb2)
     have n_b7_b8 : b7 ≠ b8 := Nat.ne_of_lt (F8.lt hb7)
     have gb8 := Nat.le_trans hR.size (Nat.le_of_eq F8.eq.symm)
     replace hb0 := F8.old hb0
     replace hb1 := F8.old hb1
     replace hb2 := F8.old hb2
     replace hb7 := F8.old hb7
     replace hO9 := hO9.fresh F8
     have hb8 : w17.heap[b8]? = some (.cells #[.string (⟨#[61]⟩ : ByteArray), .string (⟨#[105, 110]⟩ : ByteArray)] 9) := F8.new
     replace hR := hR.freshF F8
     replace hB := Fr.below hR hB0 hB0.size hSge
     have hsz10 := hR.size
     refine At.callV rfl en49 rfl rfl (parts_any b0 va9 (ls ++ [(⟨#[114, 101, 99]⟩ : ByteArray), t.nm, t.pm]) w0 t b1 b2 (.slice (some ⟨b8, 0, none⟩) 2 2) [(⟨#[61]⟩ : ByteArray), (⟨#[105, 110]⟩ : ByteArray)] _ hB hbg ghO9 hb0 hO9 ht hb1 hb2 n_b0_b1 n_b0_b2 n_b1_b2 (StrsAt.own (ss := [(⟨#[61]⟩ : ByteArray), (⟨#[105, 110]⟩ : ByteArray)]) hb8 rfl (by decide) : StrsAt _ (.slice (some ⟨b8, 0, none⟩) 2 2) [(⟨#[61]⟩ : ByteArray), (⟨#[105, 110]⟩ : ByteArray)]) (fun _ e => e.elim (Ne.symm n_b0_b8) (q_hO9_b8)) (by simp only [List.length_cons, List.length_nil]; omega) (fun i u _ hu => hke u (List.mem_of_getElem? hu)) (show _ + (ptN [(⟨#[61]⟩ : ByteArray), (⟨#[105, 110]⟩ : ByteArray)] (eK (eaL t.kids)) 2).length ≤ _ by first | omega | (simp only [List.length_append, List.length_cons, List.length_nil] at hl ⊢; omega) | (simp only [List.length_append, List.length_cons, List.length_nil, eK_at hu0, aK_at hu0] at hl ⊢; omega) | (simp only [List.length_append, List.length_cons, List.length_nil, aK_at hu0, aK_at hu1] at hl ⊢; omega) | (rw [kK_at hu0] at hl; split at hl <;> simp only [List.length_append, List.length_cons, List.length_nil, eK_at hu0, aK_at hu0, aK_at hu1] at hl ⊢ <;> omega))) (fun e w18 hR' => ?_)
     obtain ⟨va10, rfl, hb0', hO10, hF10, hMn10⟩ := hR'
     refine ⟨_, rfl, ?_⟩
     have nn_b1 : ¬ (b1 = b0 ∨ some b1 = Value.ownBlock va9) := fun e => e.elim (Ne.symm n_b0_b1) (hO9.neT hb1 rfl)
     replace hb1 := hF10.old _ _ nn_b1 hb1
     have nn_b2 : ¬ (b2 = b0 ∨ some b2 = Value.ownBlock va9) := fun e => e.elim (Ne.symm n_b0_b2) (hO9.neT hb2 rfl)
     replace hb2 := hF10.old _ _ nn_b2 hb2
     clear hb7
     have nn_b8 : ¬ (b8 = b0 ∨ some b8 = Value.ownBlock va9) := fun e => e.elim (Ne.symm n_b0_b8) q_hO9_b8
     replace hb8 := hF10.old _ _ nn_b8 hb8
     replace hb0 := hb0'
     have ghO10 := hMn10.ge (Nat.le_trans hB0.size hR.size) ghO9
     replace hR := Fr.then hR hF10 (ws_sub hM)
     replace hM := Moved.then hM (Nat.le_trans (Nat.le_refl _) hsz10) hMn10
     replace hB := Fr.below hR hB0 hB0.size hSge
     refine At.ops0 ?_
     refine At.inN ?_
     refine At.doneN (ResV.nil) ?_
     have hq : ((ls ++ [(⟨#[114, 101, 99]⟩ : ByteArray), t.nm, t.pm]) ++ (ptN [(⟨#[61]⟩ : ByteArray), (⟨#[105, 110]⟩ : ByteArray)] (eK (eaL t.kids)) 2)) = ls ++ exprW t := by rw [hw] <;> simp [eK_at hu0, aK_at hu0, kK_at hu0, eK_at hu1, aK_at hu1, kK_at hu1]
     exact ⟨va10, rfl, hb0, hq ▸ hO10, hR, hM⟩
    ·skip
     have hc5' := of_decide_eq_false hc5
     refine At.seq ?_
     refine At.region ?_
     refine At.eqI rfl rfl rfl ?_
     refine At.assign rfl rfl ?_
     refine At.ops0 ?_
     refine At.thenN ?_
     refine At.cond (b := decide (t.k = 9)) rfl (fun hc6 => ?_) (fun hc6 => ?_)
     ·skip
      have hc6' := of_decide_eq_true hc6
      have hkk := hr.k9 hc6'
      have hw := exprW_9 hc6'
      rw [hw] at hl
      obtain ⟨u0, hu0⟩ := some_of_lt (l := t.kids) (i := 0) (by omega)
      obtain ⟨u1, hu1⟩ := some_of_lt (l := t.kids) (i := 1) (by omega)
      obtain ⟨u2, hu2⟩ := some_of_lt (l := t.kids) (i := 2) (by omega)
      skip
      refine At.region ?_
      refine At.move rfl rfl ?_
      refine At.buildSlice (xs := [.const (.string (⟨#[105, 102]⟩ : ByteArray)), .const (.string (⟨#[116, 104, 101, 110]⟩ : ByteArray)), .const (.string (⟨#[101, 108, 115, 101]⟩ : ByteArray))]) rfl rfl el27 sz9 ze9 (by intro v hv; simp only [List.mem_cons, List.not_mem_nil, or_false] at hv; rcases hv with rfl | rfl | rfl <;> first | rfl | simp [Value.cells, Value.cells]) rfl (by decide) rfl (fun b9 w19 F9 => ?_)
      have q_hO_b9 : some b9 ≠ Value.ownBlock v := Own.neFresh hO F9
      have n_b0_b9 : b0 ≠ b9 := Nat.ne_of_lt (F9.lt hb0)
      have n_b1_b9 : b1 ≠ b9 := Nat.ne_of_lt (F9.lt hb1)
      have n_b2_b9 : b2 ≠ b9 := Nat.ne_of_lt (F9.lt hb2)
      have gb9 := Nat.le_trans hR.size (Nat.le_of_eq F9.eq.symm)
      replace hb0 := F9.old hb0
      replace hb1 := F9.old hb1
      replace hb2 := F9.old hb2
      replace hO := hO.fresh F9
      have hb9 : w19.heap[b9]? = some (.cells #[.string (⟨#[105, 102]⟩ : ByteArray), .string (⟨#[116, 104, 101, 110]⟩ : ByteArray), .string (⟨#[101, 108, 115, 101]⟩ : ByteArray)] 9) := F9.new
      replace hR := hR.freshF F9
      replace hB := Fr.below hR hB0 hB0.size hSge
      have hsz11 := hR.size
      refine At.callV rfl en49 rfl rfl (parts_any b0 v ls w0 t b1 b2 (.slice (some ⟨b9, 0, none⟩) 3 3) [(⟨#[105, 102]⟩ : ByteArray), (⟨#[116, 104, 101, 110]⟩ : ByteArray), (⟨#[101, 108, 115, 101]⟩ : ByteArray)] _ hB hbg gO hb0 hO ht hb1 hb2 n_b0_b1 n_b0_b2 n_b1_b2 (StrsAt.own (ss := [(⟨#[105, 102]⟩ : ByteArray), (⟨#[116, 104, 101, 110]⟩ : ByteArray), (⟨#[101, 108, 115, 101]⟩ : ByteArray)]) hb9 rfl (by decide) : StrsAt _ (.slice (some ⟨b9, 0, none⟩) 3 3) [(⟨#[105, 102]⟩ : ByteArray), (⟨#[116, 104, 101, 110]⟩ : ByteArray), (⟨#[101, 108, 115, 101]⟩ : ByteArray)]) (fun _ e => e.elim (Ne.symm n_b0_b9) (q_hO_b9)) (by simp only [List.length_cons, List.length_nil]; omega) (fun i u _ hu => hke u (List.mem_of_getElem? hu)) (show _ + (ptN [(⟨#[105, 102]⟩ : ByteArray), (⟨#[116, 104, 101, 110]⟩ : ByteArray), (⟨#[101, 108, 115, 101]⟩ : ByteArray)] (eK (eaL t.kids)) 3).length ≤ _ by first | omega | (simp only [List.length_append, List.length_cons, List.length_nil] at hl ⊢; omega) | (simp only [List.length_append, List.length_cons, List.length_nil, eK_at hu0, aK_at hu0] at hl ⊢; omega) | (simp only [List.length_append, List.length_cons, List.length_nil, aK_at hu0, aK_at hu1] at hl ⊢; omega) | (rw [kK_at hu0] at hl; split at hl <;> simp only [List.length_append, List.length_cons, List.length_nil, eK_at hu0, aK_at hu0, aK_at hu1] at hl ⊢ <;> omega))) (fun e w20 hR' => ?_)
      obtain ⟨va11, rfl, hb0', hO11, hF11, hMn11⟩ := hR'
      refine ⟨_, rfl, ?_⟩
      have nn_b1 : ¬ (b1 = b0 ∨ some b1 = Value.ownBlock v) := fun e => e.elim (Ne.symm n_b0_b1) (hO.neT hb1 rfl)
      replace hb1 := hF11.old _ _ nn_b1 hb1
      have nn_b2 : ¬ (b2 = b0 ∨ some b2 = Value.ownBlock v) := fun e => e.elim (Ne.symm n_b0_b2) (hO.neT hb2 rfl)
      replace hb2 := hF11.old _ _ nn_b2 hb2
      have nn_b9 : ¬ (b9 = b0 ∨ some b9 = Value.ownBlock v) := fun e => e.elim (Ne.symm n_b0_b9) q_hO_b9
      replace hb9 := hF11.old _ _ nn_b9 hb9
      replace hb0 := hb0'
      have ghO11 := hMn11.ge (Nat.le_trans hB0.size hR.size) gO
      replace hR := Fr.then hR hF11 (ws_sub hM)
      replace hM := Moved.then hM (Nat.le_trans (Nat.le_refl _) hsz11) hMn11
      replace hB := Fr.below hR hB0 hB0.size hSge
      refine At.ops0 ?_
      refine At.inN ?_
      refine At.doneN (ResV.nil) ?_
      have hq : (ls ++ (ptN [(⟨#[105, 102]⟩ : ByteArray), (⟨#[116, 104, 101, 110]⟩ : ByteArray), (⟨#[101, 108, 115, 101]⟩ : ByteArray)] (eK (eaL t.kids)) 3)) = ls ++ exprW t := by rw [hw] <;> simp [eK_at hu0, aK_at hu0, kK_at hu0, eK_at hu1, aK_at hu1, kK_at hu1, eK_at hu2, aK_at hu2, kK_at hu2]
      exact ⟨va11, rfl, hb0, hq ▸ hO11, hR, hM⟩
     ·skip
      have hc6' := of_decide_eq_false hc6
      refine At.seq ?_
      refine At.region ?_
      refine At.eqI rfl rfl rfl ?_
      refine At.assign rfl rfl ?_
      refine At.ops0 ?_
      refine At.thenN ?_
      refine At.cond (b := decide (t.k = 12)) rfl (fun hc7 => ?_) (fun hc7 => ?_)
      ·skip
       have hc7' := of_decide_eq_true hc7
       refine At.seq ?_
       have hkk := hr.k12 hc7'
       have hw := exprW_12 hc7'
       rw [hw] at hl
       obtain ⟨u0, hu0⟩ := some_of_lt (l := t.kids) (i := 0) (by omega)
       skip
       refine At.region ?_
       refine At.move rfl rfl ?_
       refine At.buildSlice (xs := [.const (.string (⟨#[109, 97, 116, 99, 104]⟩ : ByteArray))]) rfl rfl el27 sz9 ze9 (by intro v hv; simp only [List.mem_cons, List.not_mem_nil, or_false] at hv; rcases hv with rfl <;> first | rfl | simp [Value.cells, Value.cells]) rfl (by decide) rfl (fun b10 w21 F10 => ?_)
       have q_hO_b10 : some b10 ≠ Value.ownBlock v := Own.neFresh hO F10
       have n_b0_b10 : b0 ≠ b10 := Nat.ne_of_lt (F10.lt hb0)
       have n_b1_b10 : b1 ≠ b10 := Nat.ne_of_lt (F10.lt hb1)
       have n_b2_b10 : b2 ≠ b10 := Nat.ne_of_lt (F10.lt hb2)
       have gb10 := Nat.le_trans hR.size (Nat.le_of_eq F10.eq.symm)
       replace hb0 := F10.old hb0
       replace hb1 := F10.old hb1
       replace hb2 := F10.old hb2
       replace hO := hO.fresh F10
       have hb10 : w21.heap[b10]? = some (.cells #[.string (⟨#[109, 97, 116, 99, 104]⟩ : ByteArray)] 9) := F10.new
       replace hR := hR.freshF F10
       replace hB := Fr.below hR hB0 hB0.size hSge
       have hsz12 := hR.size
       refine At.callV rfl en49 rfl rfl (parts_any b0 v ls w0 t b1 b2 (.slice (some ⟨b10, 0, none⟩) 1 1) [(⟨#[109, 97, 116, 99, 104]⟩ : ByteArray)] _ hB hbg gO hb0 hO ht hb1 hb2 n_b0_b1 n_b0_b2 n_b1_b2 (StrsAt.own (ss := [(⟨#[109, 97, 116, 99, 104]⟩ : ByteArray)]) hb10 rfl (by decide) : StrsAt _ (.slice (some ⟨b10, 0, none⟩) 1 1) [(⟨#[109, 97, 116, 99, 104]⟩ : ByteArray)]) (fun _ e => e.elim (Ne.symm n_b0_b10) (q_hO_b10)) (by simp only [List.length_cons, List.length_nil]; omega) (fun i u _ hu => hke u (List.mem_of_getElem? hu)) (show _ + (ptN [(⟨#[109, 97, 116, 99, 104]⟩ : ByteArray)] (eK (eaL t.kids)) 1).length ≤ _ by first | omega | (simp only [List.length_append, List.length_cons, List.length_nil] at hl ⊢; omega) | (simp only [List.length_append, List.length_cons, List.length_nil, eK_at hu0, aK_at hu0] at hl ⊢; omega) | (simp only [List.length_append, List.length_cons, List.length_nil, aK_at hu0, aK_at hu1] at hl ⊢; omega) | (rw [kK_at hu0] at hl; split at hl <;> simp only [List.length_append, List.length_cons, List.length_nil, eK_at hu0, aK_at hu0, aK_at hu1] at hl ⊢ <;> omega))) (fun e w22 hR' => ?_)
       obtain ⟨va12, rfl, hb0', hO12, hF12, hMn12⟩ := hR'
       refine ⟨_, rfl, ?_⟩
       have nn_b1 : ¬ (b1 = b0 ∨ some b1 = Value.ownBlock v) := fun e => e.elim (Ne.symm n_b0_b1) (hO.neT hb1 rfl)
       replace hb1 := hF12.old _ _ nn_b1 hb1
       have nn_b2 : ¬ (b2 = b0 ∨ some b2 = Value.ownBlock v) := fun e => e.elim (Ne.symm n_b0_b2) (hO.neT hb2 rfl)
       replace hb2 := hF12.old _ _ nn_b2 hb2
       have nn_b10 : ¬ (b10 = b0 ∨ some b10 = Value.ownBlock v) := fun e => e.elim (Ne.symm n_b0_b10) q_hO_b10
       replace hb10 := hF12.old _ _ nn_b10 hb10
       replace hb0 := hb0'
       have ghO12 := hMn12.ge (Nat.le_trans hB0.size hR.size) gO
       replace hR := Fr.then hR hF12 (ws_sub hM)
       replace hM := Moved.then hM (Nat.le_trans (Nat.le_refl _) hsz12) hMn12
       replace hB := Fr.below hR hB0 hB0.size hSge
       refine At.ops0 ?_
       refine At.thenN ?_
       refine At.region ?_
       refine At.move rfl rfl ?_
       have hsz13 := hR.size
       refine At.callV rfl en46 rfl rfl (arms_any b0 va12 (ls ++ (ptN [(⟨#[109, 97, 116, 99, 104]⟩ : ByteArray)] (eK (eaL t.kids)) 1)) w0 t b1 b2 _ hB hbg ghO12 hb0 hO12 ht hb1 hb2 n_b0_b1 n_b0_b2 n_b1_b2 hba (by first | omega | (simp only [List.length_append, List.length_cons, List.length_nil] at hl ⊢; omega) | (simp only [List.length_append, List.length_cons, List.length_nil, eK_at hu0, aK_at hu0] at hl ⊢; omega) | (simp only [List.length_append, List.length_cons, List.length_nil, aK_at hu0, aK_at hu1] at hl ⊢; omega) | (rw [kK_at hu0] at hl; split at hl <;> simp only [List.length_append, List.length_cons, List.length_nil, eK_at hu0, aK_at hu0, aK_at hu1] at hl ⊢ <;> omega))) (fun e w23 hR' => ?_)
       obtain ⟨va13, rfl, hb0', hO13, hF13, hMn13⟩ := hR'
       refine ⟨_, rfl, ?_⟩
       have nn_b1 : ¬ (b1 = b0 ∨ some b1 = Value.ownBlock va12) := fun e => e.elim (Ne.symm n_b0_b1) (hO12.neT hb1 rfl)
       replace hb1 := hF13.old _ _ nn_b1 hb1
       have nn_b2 : ¬ (b2 = b0 ∨ some b2 = Value.ownBlock va12) := fun e => e.elim (Ne.symm n_b0_b2) (hO12.neT hb2 rfl)
       replace hb2 := hF13.old _ _ nn_b2 hb2
       clear hb10
       replace hb0 := hb0'
       have ghO13 := hMn13.ge (Nat.le_trans hB0.size hR.size) ghO12
       replace hR := Fr.then hR hF13 (ws_sub hM)
       replace hM := Moved.then hM (Nat.le_trans (Nat.le_refl _) hsz13) hMn13
       replace hB := Fr.below hR hB0 hB0.size hSge
       refine At.ops0 ?_
       refine At.inN ?_
       refine At.doneN (ResV.nil) ?_
       have hq : ((ls ++ (ptN [(⟨#[109, 97, 116, 99, 104]⟩ : ByteArray)] (eK (eaL t.kids)) 1)) ++ (armsW (eaA t.arms))) = ls ++ exprW t := by rw [hw] <;> simp [eK_at hu0, aK_at hu0, kK_at hu0]
       exact ⟨va13, rfl, hb0, hq ▸ hO13, hR, hM⟩
      ·skip
       have hc7' := of_decide_eq_false hc7
       refine At.seq ?_
       refine At.region ?_
       refine At.eqI rfl rfl rfl ?_
       refine At.assign rfl rfl ?_
       refine At.ops0 ?_
       refine At.thenN ?_
       refine At.cond (b := decide (t.k = 14)) rfl (fun hc8 => ?_) (fun hc8 => ?_)
       ·skip
        have hc8' := of_decide_eq_true hc8
        refine At.seq ?_
        have hkk := hr.k14 hc8'
        have hw := exprW_14 hc8'
        rw [hw] at hl
        obtain ⟨u0, hu0⟩ := some_of_lt (l := t.kids) (i := 0) (by omega)
        skip
        refine At.drawG (n := 7) mixed (by kernel_rfl) rfl (PanicOk.then (PanicOk.block PanicOk.body)) ?_
        have hR := Fr.drewF hR
        have hB := Below.drewB hB
        have hb0 : _ := (show w2.drew.heap[b0]? = _ from hb0)
        have hb1 : _ := (show w2.drew.heap[b1]? = _ from hb1)
        have hb2 : _ := (show w2.drew.heap[b2]? = _ from hb2)
        have hO := hO.drew
        refine At.wpcS (i := 0) (d := 91) (.pointer (some ⟨b0, 0, none⟩)) (by kernel_rfl) rfl rfl rfl (fun Lx => ?_) ?_
        ·skip
         refine At.load rfl (Ld.ownCell ag64 hb1 rfl) rfl ?_
         refine At.ops0 ?_
         exact fun a ha => ⟨ha, rfl⟩
        refine At.wpcS (i := 1) (d := 92) (.pointer (some ⟨b0, 0, none⟩)) (by kernel_rfl) rfl rfl rfl (fun Lx => ?_) ?_
        ·skip
         refine At.nilCheck rfl rfl ?_
         refine At.ops0 ?_
         exact fun a ha => ⟨ha, rfl⟩
        refine At.wpcS (i := 2) (d := 93) (.pointer (some ⟨b0, 0 + 0, none⟩)) (by kernel_rfl) rfl rfl rfl (fun Lx => ?_) ?_
        ·skip
         refine At.fieldAddr rfl fo68_0 rfl ?_
         refine At.ops0 ?_
         exact fun a ha => ⟨ha, rfl⟩
        refine At.wpcS (i := 3) (d := 94) (.pointer (some ⟨b2, 0 + 2, none⟩)) (by kernel_rfl) rfl rfl rfl (fun Lx => ?_) ?_
        ·skip
         refine At.fieldAddr rfl fo33_2 rfl ?_
         refine At.ops0 ?_
         exact fun a ha => ⟨ha, rfl⟩
        refine At.wpcS (i := 4) (d := 95) (.string t.nm) (by kernel_rfl) rfl rfl rfl (fun Lx => ?_) ?_
        ·skip
         refine At.load rfl (Ld.ownCell ag9 hb2 (ht).c2) rfl ?_
         refine At.ops0 ?_
         exact fun a ha => ⟨ha, rfl⟩
        refine At.wpcE [5] (by kernel_rfl) (by kernel_rfl) (.cons [0, 1, 2] rfl (by kernel_rfl) ?_ .nil)
        refine At.buildSlice (xs := [.const (.string (⟨#[104, 97, 110, 100, 108, 101]⟩ : ByteArray)), .tmp 95]) rfl rfl el27 sz9 ze9 (by intro v hv; simp only [List.mem_cons, List.not_mem_nil, or_false] at hv; rcases hv with rfl | rfl <;> first | rfl | simp [Value.cells, Value.cells]) rfl (by decide) rfl (fun b11 w24 F11 => ?_)
        have q_hO_b11 : some b11 ≠ Value.ownBlock v := Own.neFresh hO F11
        have n_b0_b11 : b0 ≠ b11 := Nat.ne_of_lt (F11.lt hb0)
        have n_b1_b11 : b1 ≠ b11 := Nat.ne_of_lt (F11.lt hb1)
        have n_b2_b11 : b2 ≠ b11 := Nat.ne_of_lt (F11.lt hb2)
        have gb11 := Nat.le_trans hR.size (Nat.le_of_eq F11.eq.symm)
        replace hb0 := F11.old hb0
        replace hb1 := F11.old hb1
        replace hb2 := F11.old hb2
        replace hO := hO.fresh F11
        have hb11 : w24.heap[b11]? = some (.cells #[.string (⟨#[104, 97, 110, 100, 108, 101]⟩ : ByteArray), .string t.nm] 9) := F11.new
        replace hR := hR.freshF F11
        replace hB := Fr.below hR hB0 hB0.size hSge
        refine At.ops0 ?_
        refine At.wpcN (.cons rfl rfl rfl rfl (fun Lx => ?_) (.cons rfl rfl rfl rfl (fun Lx => ?_) (.cons rfl rfl rfl rfl (fun Lx => ?_) .nil))) ?_
        ·skip
         refine At.load rfl (Ld.ownCell ag64 hb1 rfl) rfl ?_
         refine At.ops0 ?_
         exact fun a ha => ⟨ha, rfl⟩
        ·skip
         refine At.nilCheck rfl rfl ?_
         refine At.ops0 ?_
         exact fun a ha => ⟨ha, rfl⟩
        ·skip
         refine At.fieldAddr rfl fo68_0 rfl ?_
         refine At.ops0 ?_
         exact fun a ha => ⟨ha, rfl⟩
        refine At.wpcE [6] (by kernel_rfl) (by kernel_rfl) (.cons [] rfl (by kernel_rfl) ?_ .nil)
        have hsz14 := hR.size
        refine At.call en20 rfl rfl (add_any b0 v ls (.slice (some ⟨b11, 0, none⟩) 2 2) ([(⟨#[104, 97, 110, 100, 108, 101]⟩ : ByteArray), t.nm]) w0 _ hB hbg gO hb0 hO (StrsAt.own (ss := [(⟨#[104, 97, 110, 100, 108, 101]⟩ : ByteArray), t.nm]) hb11 rfl (by decide) : StrsAt _ (.slice (some ⟨b11, 0, none⟩) 2 2) [(⟨#[104, 97, 110, 100, 108, 101]⟩ : ByteArray), t.nm]) (by first | omega | (simp only [List.length_append, List.length_cons, List.length_nil] at hl ⊢; omega) | (simp only [List.length_append, List.length_cons, List.length_nil, eK_at hu0, aK_at hu0] at hl ⊢; omega) | (simp only [List.length_append, List.length_cons, List.length_nil, aK_at hu0, aK_at hu1] at hl ⊢; omega) | (rw [kK_at hu0] at hl; split at hl <;> simp only [List.length_append, List.length_cons, List.length_nil, eK_at hu0, aK_at hu0, aK_at hu1] at hl ⊢ <;> omega))) (fun e w25 hR' => ?_)
        obtain ⟨va14, rfl, hb0', hO14, hF14, hMn14⟩ := hR'
        refine ⟨_, rfl, ?_⟩
        have nn_b1 : ¬ (b1 = b0 ∨ some b1 = Value.ownBlock v) := fun e => e.elim (Ne.symm n_b0_b1) (hO.neT hb1 rfl)
        replace hb1 := hF14.old _ _ nn_b1 hb1
        have nn_b2 : ¬ (b2 = b0 ∨ some b2 = Value.ownBlock v) := fun e => e.elim (Ne.symm n_b0_b2) (hO.neT hb2 rfl)
        replace hb2 := hF14.old _ _ nn_b2 hb2
        have nn_b11 : ¬ (b11 = b0 ∨ some b11 = Value.ownBlock v) := fun e => e.elim (Ne.symm n_b0_b11) q_hO_b11
        replace hb11 := hF14.old _ _ nn_b11 hb11
        replace hb0 := hb0'
        have ghO14 := hMn14.ge (Nat.le_trans hB0.size hR.size) gO
        replace hR := Fr.then hR hF14 (ws_sub hM)
        replace hM := Moved.then hM (Nat.le_trans (Nat.le_refl _) hsz14) hMn14
        replace hB := Fr.below hR hB0 hB0.size hSge
        refine At.ops0 ?_
        refine At.wpcN .nil ?_
        refine At.wpcZ ?_
        refine At.thenN ?_
        refine At.seq ?_
        refine At.drawG (n := 6) mixed (by kernel_rfl) rfl (PanicOk.then (PanicOk.block PanicOk.body)) ?_
        have hR := Fr.drewF hR
        have hB := Below.drewB hB
        have hb0 : _ := (show w25.drew.heap[b0]? = _ from hb0)
        have hb1 : _ := (show w25.drew.heap[b1]? = _ from hb1)
        have hb2 : _ := (show w25.drew.heap[b2]? = _ from hb2)
        have hb11 : _ := (show w25.drew.heap[b11]? = _ from hb11)
        have hO14 := hO14.drew
        refine At.wpcS (i := 0) (d := 98) (.pointer (some ⟨b0, 0, none⟩)) (by kernel_rfl) rfl rfl rfl (fun Lx => ?_) ?_
        ·skip
         refine At.load rfl (Ld.ownCell ag64 hb1 rfl) rfl ?_
         refine At.ops0 ?_
         exact fun a ha => ⟨ha, rfl⟩
        refine At.wpcS (i := 1) (d := 99) (.pointer (some ⟨b2, 0 + 5, none⟩)) (by kernel_rfl) rfl rfl rfl (fun Lx => ?_) ?_
        ·skip
         refine At.fieldAddr rfl fo33_5 rfl ?_
         refine At.ops0 ?_
         exact fun a ha => ⟨ha, rfl⟩
        refine At.wpcS (i := 2) (d := 100) (t.kv) (by kernel_rfl) rfl rfl rfl (fun Lx => ?_) ?_
        ·skip
         refine At.load rfl (Ld.ownCell ag24 hb2 (ht).c5) rfl ?_
         refine At.ops0 ?_
         exact fun a ha => ⟨ha, rfl⟩
        refine At.wpcS (i := 3) (d := 101) (.pointer (some ⟨vBlock t.kv, vOff t.kv + 0 * 21, none⟩)) (by kernel_rfl) rfl rfl rfl (fun Lx => ?_) ?_
        ·skip
         refine At.indexAddr (i := 0) rfl rfl ((ht).kidsAt).okL (lt_of_some hu0) el24 sz33 rfl ?_
         refine At.ops0 ?_
         exact fun a ha => ⟨ha, rfl⟩
        refine At.wpcS (i := 4) (d := 102) (.agg u0.cs) (by kernel_rfl) rfl rfl rfl (fun Lx => ?_) ?_
        ·skip
         refine At.load rfl (Ld.row ag33 (sz33.trans (congrArg some (((ht).kid hu0)).size.symm)) ((((ht).kidsAt).row hu0).keep hB)) rfl ?_
         refine At.ops0 ?_
         exact fun a ha => ⟨ha, rfl⟩
        refine At.wpcE [5] (by kernel_rfl) (by kernel_rfl) (.cons [] rfl (by kernel_rfl) ?_ .nil)
        have hsz15 := hR.size
        refine At.call en25 rfl rfl ((hke u0 (List.mem_of_getElem? hu0)) va14 (ls ++ [(⟨#[104, 97, 110, 100, 108, 101]⟩ : ByteArray), t.nm]) _ hB hbg ghO14 hb0 hO14 (by first | omega | (simp only [List.length_append, List.length_cons, List.length_nil] at hl ⊢; omega) | (simp only [List.length_append, List.length_cons, List.length_nil, eK_at hu0, aK_at hu0] at hl ⊢; omega) | (simp only [List.length_append, List.length_cons, List.length_nil, aK_at hu0, aK_at hu1] at hl ⊢; omega) | (rw [kK_at hu0] at hl; split at hl <;> simp only [List.length_append, List.length_cons, List.length_nil, eK_at hu0, aK_at hu0, aK_at hu1] at hl ⊢ <;> omega))) (fun e w26 hR' => ?_)
        obtain ⟨va15, rfl, hb0', hO15, hF15, hMn15⟩ := hR'
        refine ⟨_, rfl, ?_⟩
        have nn_b1 : ¬ (b1 = b0 ∨ some b1 = Value.ownBlock va14) := fun e => e.elim (Ne.symm n_b0_b1) (hO14.neT hb1 rfl)
        replace hb1 := hF15.old _ _ nn_b1 hb1
        have nn_b2 : ¬ (b2 = b0 ∨ some b2 = Value.ownBlock va14) := fun e => e.elim (Ne.symm n_b0_b2) (hO14.neT hb2 rfl)
        replace hb2 := hF15.old _ _ nn_b2 hb2
        clear hb11
        replace hb0 := hb0'
        have ghO15 := hMn15.ge (Nat.le_trans hB0.size hR.size) ghO14
        replace hR := Fr.then hR hF15 (ws_sub hM)
        replace hM := Moved.then hM (Nat.le_trans (Nat.le_refl _) hsz15) hMn15
        replace hB := Fr.below hR hB0 hB0.size hSge
        refine At.ops0 ?_
        refine At.wpcN .nil ?_
        refine At.wpcZ ?_
        refine At.thenN ?_
        refine At.region ?_
        refine At.move rfl rfl ?_
        have hsz16 := hR.size
        refine At.callV rfl en46 rfl rfl (arms_any b0 va15 ((ls ++ [(⟨#[104, 97, 110, 100, 108, 101]⟩ : ByteArray), t.nm]) ++ (exprW u0)) w0 t b1 b2 _ hB hbg ghO15 hb0 hO15 ht hb1 hb2 n_b0_b1 n_b0_b2 n_b1_b2 hba (by first | omega | (simp only [List.length_append, List.length_cons, List.length_nil] at hl ⊢; omega) | (simp only [List.length_append, List.length_cons, List.length_nil, eK_at hu0, aK_at hu0] at hl ⊢; omega) | (simp only [List.length_append, List.length_cons, List.length_nil, aK_at hu0, aK_at hu1] at hl ⊢; omega) | (rw [kK_at hu0] at hl; split at hl <;> simp only [List.length_append, List.length_cons, List.length_nil, eK_at hu0, aK_at hu0, aK_at hu1] at hl ⊢ <;> omega))) (fun e w27 hR' => ?_)
        obtain ⟨va16, rfl, hb0', hO16, hF16, hMn16⟩ := hR'
        refine ⟨_, rfl, ?_⟩
        have nn_b1 : ¬ (b1 = b0 ∨ some b1 = Value.ownBlock va15) := fun e => e.elim (Ne.symm n_b0_b1) (hO15.neT hb1 rfl)
        replace hb1 := hF16.old _ _ nn_b1 hb1
        have nn_b2 : ¬ (b2 = b0 ∨ some b2 = Value.ownBlock va15) := fun e => e.elim (Ne.symm n_b0_b2) (hO15.neT hb2 rfl)
        replace hb2 := hF16.old _ _ nn_b2 hb2
        replace hb0 := hb0'
        have ghO16 := hMn16.ge (Nat.le_trans hB0.size hR.size) ghO15
        replace hR := Fr.then hR hF16 (ws_sub hM)
        replace hM := Moved.then hM (Nat.le_trans (Nat.le_refl _) hsz16) hMn16
        replace hB := Fr.below hR hB0 hB0.size hSge
        refine At.ops0 ?_
        refine At.inN ?_
        refine At.doneN (ResV.nil) ?_
        have hq : (((ls ++ [(⟨#[104, 97, 110, 100, 108, 101]⟩ : ByteArray), t.nm]) ++ (exprW u0)) ++ (armsW (eaA t.arms))) = ls ++ exprW t := by rw [hw] <;> simp [eK_at hu0, aK_at hu0, kK_at hu0]
        exact ⟨va16, rfl, hb0, hq ▸ hO16, hR, hM⟩
       ·skip
        have hc8' := of_decide_eq_false hc8
        refine At.seq ?_
        refine At.region ?_
        refine At.eqI rfl rfl rfl ?_
        refine At.assign rfl rfl ?_
        refine At.ops0 ?_
        refine At.thenN ?_
        refine At.cond (b := decide (t.k = 13)) rfl (fun hc9 => ?_) (fun hc9 => ?_)
        ·skip
         have hc9' := of_decide_eq_true hc9
         refine At.seq ?_
         have hkk := hr.k13 hc9'
         have hw := exprW_13 hc9'
         rw [hw] at hl
         obtain ⟨u0, hu0⟩ := some_of_lt (l := t.kids) (i := 0) (by omega)
         skip
         refine At.drawG (n := 8) mixed (by kernel_rfl) rfl (PanicOk.then (PanicOk.block PanicOk.body)) ?_
         have hR := Fr.drewF hR
         have hB := Below.drewB hB
         have hb0 : _ := (show w2.drew.heap[b0]? = _ from hb0)
         have hb1 : _ := (show w2.drew.heap[b1]? = _ from hb1)
         have hb2 : _ := (show w2.drew.heap[b2]? = _ from hb2)
         have hO := hO.drew
         refine At.wpcS (i := 0) (d := 108) (.pointer (some ⟨b0, 0, none⟩)) (by kernel_rfl) rfl rfl rfl (fun Lx => ?_) ?_
         ·skip
          refine At.load rfl (Ld.ownCell ag64 hb1 rfl) rfl ?_
          refine At.ops0 ?_
          exact fun a ha => ⟨ha, rfl⟩
         refine At.wpcS (i := 1) (d := 109) (.pointer (some ⟨b0, 0, none⟩)) (by kernel_rfl) rfl rfl rfl (fun Lx => ?_) ?_
         ·skip
          refine At.nilCheck rfl rfl ?_
          refine At.ops0 ?_
          exact fun a ha => ⟨ha, rfl⟩
         refine At.wpcS (i := 2) (d := 110) (.pointer (some ⟨b0, 0 + 0, none⟩)) (by kernel_rfl) rfl rfl rfl (fun Lx => ?_) ?_
         ·skip
          refine At.fieldAddr rfl fo68_0 rfl ?_
          refine At.ops0 ?_
          exact fun a ha => ⟨ha, rfl⟩
         refine At.wpcS (i := 3) (d := 111) (.pointer (some ⟨b2, 0 + 2, none⟩)) (by kernel_rfl) rfl rfl rfl (fun Lx => ?_) ?_
         ·skip
          refine At.fieldAddr rfl fo33_2 rfl ?_
          refine At.ops0 ?_
          exact fun a ha => ⟨ha, rfl⟩
         refine At.wpcS (i := 4) (d := 112) (.string t.nm) (by kernel_rfl) rfl rfl rfl (fun Lx => ?_) ?_
         ·skip
          refine At.load rfl (Ld.ownCell ag9 hb2 (ht).c2) rfl ?_
          refine At.ops0 ?_
          exact fun a ha => ⟨ha, rfl⟩
         refine At.wpcS (i := 5) (d := 113) (.string (t.nm ++ (⟨#[33]⟩ : ByteArray))) (by kernel_rfl) rfl rfl rfl (fun Lx => ?_) ?_
         ·skip
          refine At.cat rfl rfl rfl (by show t.nm.size + 1 ≤ _; omega) ?_
          refine At.ops0 ?_
          exact fun a ha => ⟨ha, rfl⟩
         refine At.wpcE [6] (by kernel_rfl) (by kernel_rfl) (.cons [0, 1, 2] rfl (by kernel_rfl) ?_ .nil)
         refine At.buildSlice (xs := [.tmp 113]) rfl rfl el27 sz9 ze9 (by intro v hv; simp only [List.mem_cons, List.not_mem_nil, or_false] at hv; rcases hv with rfl <;> first | rfl | simp [Value.cells, Value.cells]) rfl (by decide) rfl (fun b12 w28 F12 => ?_)
         have q_hO_b12 : some b12 ≠ Value.ownBlock v := Own.neFresh hO F12
         have n_b0_b12 : b0 ≠ b12 := Nat.ne_of_lt (F12.lt hb0)
         have n_b1_b12 : b1 ≠ b12 := Nat.ne_of_lt (F12.lt hb1)
         have n_b2_b12 : b2 ≠ b12 := Nat.ne_of_lt (F12.lt hb2)
         have gb12 := Nat.le_trans hR.size (Nat.le_of_eq F12.eq.symm)
         replace hb0 := F12.old hb0
         replace hb1 := F12.old hb1
         replace hb2 := F12.old hb2
         replace hO := hO.fresh F12
         have hb12 : w28.heap[b12]? = some (.cells #[.string (t.nm ++ (⟨#[33]⟩ : ByteArray))] 9) := F12.new
         replace hR := hR.freshF F12
         replace hB := Fr.below hR hB0 hB0.size hSge
         refine At.ops0 ?_
         refine At.wpcN (.cons rfl rfl rfl rfl (fun Lx => ?_) (.cons rfl rfl rfl rfl (fun Lx => ?_) (.cons rfl rfl rfl rfl (fun Lx => ?_) .nil))) ?_
         ·skip
          refine At.load rfl (Ld.ownCell ag64 hb1 rfl) rfl ?_
          refine At.ops0 ?_
          exact fun a ha => ⟨ha, rfl⟩
         ·skip
          refine At.nilCheck rfl rfl ?_
          refine At.ops0 ?_
          exact fun a ha => ⟨ha, rfl⟩
         ·skip
          refine At.fieldAddr rfl fo68_0 rfl ?_
          refine At.ops0 ?_
          exact fun a ha => ⟨ha, rfl⟩
         refine At.wpcE [7] (by kernel_rfl) (by kernel_rfl) (.cons [] rfl (by kernel_rfl) ?_ .nil)
         have hsz17 := hR.size
         refine At.call en20 rfl rfl (add_any b0 v ls (.slice (some ⟨b12, 0, none⟩) 1 1) ([(t.nm ++ (⟨#[33]⟩ : ByteArray))]) w0 _ hB hbg gO hb0 hO (StrsAt.own (ss := [(t.nm ++ (⟨#[33]⟩ : ByteArray))]) hb12 rfl (by decide) : StrsAt _ (.slice (some ⟨b12, 0, none⟩) 1 1) [(t.nm ++ (⟨#[33]⟩ : ByteArray))]) (by first | omega | (simp only [List.length_append, List.length_cons, List.length_nil] at hl ⊢; omega) | (simp only [List.length_append, List.length_cons, List.length_nil, eK_at hu0, aK_at hu0] at hl ⊢; omega) | (simp only [List.length_append, List.length_cons, List.length_nil, aK_at hu0, aK_at hu1] at hl ⊢; omega) | (rw [kK_at hu0] at hl; split at hl <;> simp only [List.length_append, List.length_cons, List.length_nil, eK_at hu0, aK_at hu0, aK_at hu1] at hl ⊢ <;> omega))) (fun e w29 hR' => ?_)
         obtain ⟨va17, rfl, hb0', hO17, hF17, hMn17⟩ := hR'
         refine ⟨_, rfl, ?_⟩
         have nn_b1 : ¬ (b1 = b0 ∨ some b1 = Value.ownBlock v) := fun e => e.elim (Ne.symm n_b0_b1) (hO.neT hb1 rfl)
         replace hb1 := hF17.old _ _ nn_b1 hb1
         have nn_b2 : ¬ (b2 = b0 ∨ some b2 = Value.ownBlock v) := fun e => e.elim (Ne.symm n_b0_b2) (hO.neT hb2 rfl)
         replace hb2 := hF17.old _ _ nn_b2 hb2
         have nn_b12 : ¬ (b12 = b0 ∨ some b12 = Value.ownBlock v) := fun e => e.elim (Ne.symm n_b0_b12) q_hO_b12
         replace hb12 := hF17.old _ _ nn_b12 hb12
         replace hb0 := hb0'
         have ghO17 := hMn17.ge (Nat.le_trans hB0.size hR.size) gO
         replace hR := Fr.then hR hF17 (ws_sub hM)
         replace hM := Moved.then hM (Nat.le_trans (Nat.le_refl _) hsz17) hMn17
         replace hB := Fr.below hR hB0 hB0.size hSge
         refine At.ops0 ?_
         refine At.wpcN .nil ?_
         refine At.wpcZ ?_
         refine At.thenN ?_
         refine At.drawG (n := 6) mixed (by kernel_rfl) rfl (PanicOk.block PanicOk.body) ?_
         have hR := Fr.drewF hR
         have hB := Below.drewB hB
         have hb0 : _ := (show w29.drew.heap[b0]? = _ from hb0)
         have hb1 : _ := (show w29.drew.heap[b1]? = _ from hb1)
         have hb2 : _ := (show w29.drew.heap[b2]? = _ from hb2)
         have hb12 : _ := (show w29.drew.heap[b12]? = _ from hb12)
         have hO17 := hO17.drew
         refine At.wpcS (i := 0) (d := 116) (.pointer (some ⟨b0, 0, none⟩)) (by kernel_rfl) rfl rfl rfl (fun Lx => ?_) ?_
         ·skip
          refine At.load rfl (Ld.ownCell ag64 hb1 rfl) rfl ?_
          refine At.ops0 ?_
          exact fun a ha => ⟨ha, rfl⟩
         refine At.wpcS (i := 1) (d := 117) (.pointer (some ⟨b2, 0 + 5, none⟩)) (by kernel_rfl) rfl rfl rfl (fun Lx => ?_) ?_
         ·skip
          refine At.fieldAddr rfl fo33_5 rfl ?_
          refine At.ops0 ?_
          exact fun a ha => ⟨ha, rfl⟩
         refine At.wpcS (i := 2) (d := 118) (t.kv) (by kernel_rfl) rfl rfl rfl (fun Lx => ?_) ?_
         ·skip
          refine At.load rfl (Ld.ownCell ag24 hb2 (ht).c5) rfl ?_
          refine At.ops0 ?_
          exact fun a ha => ⟨ha, rfl⟩
         refine At.wpcS (i := 3) (d := 119) (.pointer (some ⟨vBlock t.kv, vOff t.kv + 0 * 21, none⟩)) (by kernel_rfl) rfl rfl rfl (fun Lx => ?_) ?_
         ·skip
          refine At.indexAddr (i := 0) rfl rfl ((ht).kidsAt).okL (lt_of_some hu0) el24 sz33 rfl ?_
          refine At.ops0 ?_
          exact fun a ha => ⟨ha, rfl⟩
         refine At.wpcS (i := 4) (d := 120) (.agg u0.cs) (by kernel_rfl) rfl rfl rfl (fun Lx => ?_) ?_
         ·skip
          refine At.load rfl (Ld.row ag33 (sz33.trans (congrArg some (((ht).kid hu0)).size.symm)) ((((ht).kidsAt).row hu0).keep hB)) rfl ?_
          refine At.ops0 ?_
          exact fun a ha => ⟨ha, rfl⟩
         refine At.wpcE [5] (by kernel_rfl) (by kernel_rfl) (.cons [] rfl (by kernel_rfl) ?_ .nil)
         have hsz18 := hR.size
         refine At.call en50 rfl rfl ((hka u0 (List.mem_of_getElem? hu0)) va17 (ls ++ [(t.nm ++ (⟨#[33]⟩ : ByteArray))]) _ hB hbg ghO17 hb0 hO17 (by first | omega | (simp only [List.length_append, List.length_cons, List.length_nil] at hl ⊢; omega) | (simp only [List.length_append, List.length_cons, List.length_nil, eK_at hu0, aK_at hu0] at hl ⊢; omega) | (simp only [List.length_append, List.length_cons, List.length_nil, aK_at hu0, aK_at hu1] at hl ⊢; omega) | (rw [kK_at hu0] at hl; split at hl <;> simp only [List.length_append, List.length_cons, List.length_nil, eK_at hu0, aK_at hu0, aK_at hu1] at hl ⊢ <;> omega))) (fun e w30 hR' => ?_)
         obtain ⟨va18, rfl, hb0', hO18, hF18, hMn18⟩ := hR'
         refine ⟨_, rfl, ?_⟩
         have nn_b1 : ¬ (b1 = b0 ∨ some b1 = Value.ownBlock va17) := fun e => e.elim (Ne.symm n_b0_b1) (hO17.neT hb1 rfl)
         replace hb1 := hF18.old _ _ nn_b1 hb1
         have nn_b2 : ¬ (b2 = b0 ∨ some b2 = Value.ownBlock va17) := fun e => e.elim (Ne.symm n_b0_b2) (hO17.neT hb2 rfl)
         replace hb2 := hF18.old _ _ nn_b2 hb2
         clear hb12
         replace hb0 := hb0'
         have ghO18 := hMn18.ge (Nat.le_trans hB0.size hR.size) ghO17
         replace hR := Fr.then hR hF18 (ws_sub hM)
         replace hM := Moved.then hM (Nat.le_trans (Nat.le_refl _) hsz18) hMn18
         replace hB := Fr.below hR hB0 hB0.size hSge
         refine At.ops0 ?_
         refine At.wpcN .nil ?_
         refine At.wpcZ ?_
         refine At.inN ?_
         refine At.doneN (ResV.nil) ?_
         have hq : ((ls ++ [(t.nm ++ (⟨#[33]⟩ : ByteArray))]) ++ (atomW u0)) = ls ++ exprW t := by rw [hw] <;> simp [eK_at hu0, aK_at hu0, kK_at hu0]
         exact ⟨va18, rfl, hb0, hq ▸ hO18, hR, hM⟩
        ·skip
         have hc9' := of_decide_eq_false hc9
         refine At.seq ?_
         refine At.region ?_
         refine At.eqI rfl rfl rfl ?_
         refine At.assign rfl rfl ?_
         refine At.ops0 ?_
         refine At.thenN ?_
         refine At.cond (b := decide (t.k = 10)) rfl (fun hc10 => ?_) (fun hc10 => ?_)
         ·skip
          have hc10' := of_decide_eq_true hc10
          refine At.seq ?_
          refine At.region ?_
          refine At.fieldAddr rfl fo33_5 rfl ?_
          refine At.load rfl (Ld.ownCell ag24 hb2 (ht).c5) rfl ?_
          refine At.lenSl rfl ((ht).kidsAt).okL el24 rfl ?_
          refine At.ops0 ?_
          refine At.thenN ?_
          refine At.block ?_
          refine At.seq ?_
          refine At.region ?_
          refine At.eqI rfl rfl rfl ?_
          refine At.assign rfl rfl ?_
          refine At.ops0 ?_
          refine At.thenN ?_
          refine At.cond (b := decide ((t.kids.length : Int) = 2)) rfl (fun hc11 => ?_) (fun hc11 => ?_)
          ·skip
           have hc11' := of_decide_eq_true hc11
           refine At.seq ?_
           have hk10 := hr.k10 hc10'
           have hnm : t.nm ≠ (⟨#[114, 101, 97, 100]⟩ : ByteArray) := fun e => by rw [e, kids_read] at hk10; omega
           have hw := exprW_op2 hc10' hnm (by omega)
           rw [hw] at hl
           obtain ⟨u0, hu0⟩ := some_of_lt (l := t.kids) (i := 0) (by omega)
           obtain ⟨u1, hu1⟩ := some_of_lt (l := t.kids) (i := 1) (by omega)
           refine At.drawG (n := 6) mixed (by kernel_rfl) rfl (PanicOk.then (PanicOk.block (PanicOk.block PanicOk.body))) ?_
           have hR := Fr.drewF hR
           have hB := Below.drewB hB
           have hb0 : _ := (show w2.drew.heap[b0]? = _ from hb0)
           have hb1 : _ := (show w2.drew.heap[b1]? = _ from hb1)
           have hb2 : _ := (show w2.drew.heap[b2]? = _ from hb2)
           have hO := hO.drew
           refine At.wpcS (i := 0) (d := 132) (.pointer (some ⟨b0, 0, none⟩)) (by kernel_rfl) rfl rfl rfl (fun Lx => ?_) ?_
           ·skip
            refine At.load rfl (Ld.ownCell ag64 hb1 rfl) rfl ?_
            refine At.ops0 ?_
            exact fun a ha => ⟨ha, rfl⟩
           refine At.wpcS (i := 1) (d := 133) (.pointer (some ⟨b2, 0 + 5, none⟩)) (by kernel_rfl) rfl rfl rfl (fun Lx => ?_) ?_
           ·skip
            refine At.fieldAddr rfl fo33_5 rfl ?_
            refine At.ops0 ?_
            exact fun a ha => ⟨ha, rfl⟩
           refine At.wpcS (i := 2) (d := 134) (t.kv) (by kernel_rfl) rfl rfl rfl (fun Lx => ?_) ?_
           ·skip
            refine At.load rfl (Ld.ownCell ag24 hb2 (ht).c5) rfl ?_
            refine At.ops0 ?_
            exact fun a ha => ⟨ha, rfl⟩
           refine At.wpcS (i := 3) (d := 135) (.pointer (some ⟨vBlock t.kv, vOff t.kv + 0 * 21, none⟩)) (by kernel_rfl) rfl rfl rfl (fun Lx => ?_) ?_
           ·skip
            refine At.indexAddr (i := 0) rfl rfl ((ht).kidsAt).okL (lt_of_some hu0) el24 sz33 rfl ?_
            refine At.ops0 ?_
            exact fun a ha => ⟨ha, rfl⟩
           refine At.wpcS (i := 4) (d := 136) (.agg u0.cs) (by kernel_rfl) rfl rfl rfl (fun Lx => ?_) ?_
           ·skip
            refine At.load rfl (Ld.row ag33 (sz33.trans (congrArg some (((ht).kid hu0)).size.symm)) ((((ht).kidsAt).row hu0).keep hB)) rfl ?_
            refine At.ops0 ?_
            exact fun a ha => ⟨ha, rfl⟩
           refine At.wpcE [5] (by kernel_rfl) (by kernel_rfl) (.cons [] rfl (by kernel_rfl) ?_ .nil)
           have hsz19 := hR.size
           refine At.call en50 rfl rfl ((hka u0 (List.mem_of_getElem? hu0)) v ls _ hB hbg gO hb0 hO (by first | omega | (simp only [List.length_append, List.length_cons, List.length_nil] at hl ⊢; omega) | (simp only [List.length_append, List.length_cons, List.length_nil, eK_at hu0, aK_at hu0] at hl ⊢; omega) | (simp only [List.length_append, List.length_cons, List.length_nil, aK_at hu0, aK_at hu1] at hl ⊢; omega) | (rw [kK_at hu0] at hl; split at hl <;> simp only [List.length_append, List.length_cons, List.length_nil, eK_at hu0, aK_at hu0, aK_at hu1] at hl ⊢ <;> omega))) (fun e w31 hR' => ?_)
           obtain ⟨va19, rfl, hb0', hO19, hF19, hMn19⟩ := hR'
           refine ⟨_, rfl, ?_⟩
           have nn_b1 : ¬ (b1 = b0 ∨ some b1 = Value.ownBlock v) := fun e => e.elim (Ne.symm n_b0_b1) (hO.neT hb1 rfl)
           replace hb1 := hF19.old _ _ nn_b1 hb1
           have nn_b2 : ¬ (b2 = b0 ∨ some b2 = Value.ownBlock v) := fun e => e.elim (Ne.symm n_b0_b2) (hO.neT hb2 rfl)
           replace hb2 := hF19.old _ _ nn_b2 hb2
           replace hb0 := hb0'
           have ghO19 := hMn19.ge (Nat.le_trans hB0.size hR.size) gO
           replace hR := Fr.then hR hF19 (ws_sub hM)
           replace hM := Moved.then hM (Nat.le_trans (Nat.le_refl _) hsz19) hMn19
           replace hB := Fr.below hR hB0 hB0.size hSge
           refine At.ops0 ?_
           refine At.wpcN .nil ?_
           refine At.wpcZ ?_
           refine At.thenN ?_
           refine At.seq ?_
           refine At.drawG (n := 7) mixed (by kernel_rfl) rfl (PanicOk.then (PanicOk.block (PanicOk.block PanicOk.body))) ?_
           have hR := Fr.drewF hR
           have hB := Below.drewB hB
           have hb0 : _ := (show w31.drew.heap[b0]? = _ from hb0)
           have hb1 : _ := (show w31.drew.heap[b1]? = _ from hb1)
           have hb2 : _ := (show w31.drew.heap[b2]? = _ from hb2)
           have hO19 := hO19.drew
           refine At.wpcS (i := 0) (d := 138) (.pointer (some ⟨b0, 0, none⟩)) (by kernel_rfl) rfl rfl rfl (fun Lx => ?_) ?_
           ·skip
            refine At.load rfl (Ld.ownCell ag64 hb1 rfl) rfl ?_
            refine At.ops0 ?_
            exact fun a ha => ⟨ha, rfl⟩
           refine At.wpcS (i := 1) (d := 139) (.pointer (some ⟨b0, 0, none⟩)) (by kernel_rfl) rfl rfl rfl (fun Lx => ?_) ?_
           ·skip
            refine At.nilCheck rfl rfl ?_
            refine At.ops0 ?_
            exact fun a ha => ⟨ha, rfl⟩
           refine At.wpcS (i := 2) (d := 140) (.pointer (some ⟨b0, 0 + 0, none⟩)) (by kernel_rfl) rfl rfl rfl (fun Lx => ?_) ?_
           ·skip
            refine At.fieldAddr rfl fo68_0 rfl ?_
            refine At.ops0 ?_
            exact fun a ha => ⟨ha, rfl⟩
           refine At.wpcS (i := 3) (d := 141) (.pointer (some ⟨b2, 0 + 2, none⟩)) (by kernel_rfl) rfl rfl rfl (fun Lx => ?_) ?_
           ·skip
            refine At.fieldAddr rfl fo33_2 rfl ?_
            refine At.ops0 ?_
            exact fun a ha => ⟨ha, rfl⟩
           refine At.wpcS (i := 4) (d := 142) (.string t.nm) (by kernel_rfl) rfl rfl rfl (fun Lx => ?_) ?_
           ·skip
            refine At.load rfl (Ld.ownCell ag9 hb2 (ht).c2) rfl ?_
            refine At.ops0 ?_
            exact fun a ha => ⟨ha, rfl⟩
           refine At.wpcE [5] (by kernel_rfl) (by kernel_rfl) (.cons [0, 1, 2] rfl (by kernel_rfl) ?_ .nil)
           refine At.buildSlice (xs := [.tmp 142]) rfl rfl el27 sz9 ze9 (by intro v hv; simp only [List.mem_cons, List.not_mem_nil, or_false] at hv; rcases hv with rfl <;> first | rfl | simp [Value.cells, Value.cells]) rfl (by decide) rfl (fun b13 w32 F13 => ?_)
           have q_hO19_b13 : some b13 ≠ Value.ownBlock va19 := Own.neFresh hO19 F13
           have n_b0_b13 : b0 ≠ b13 := Nat.ne_of_lt (F13.lt hb0)
           have n_b1_b13 : b1 ≠ b13 := Nat.ne_of_lt (F13.lt hb1)
           have n_b2_b13 : b2 ≠ b13 := Nat.ne_of_lt (F13.lt hb2)
           have gb13 := Nat.le_trans hR.size (Nat.le_of_eq F13.eq.symm)
           replace hb0 := F13.old hb0
           replace hb1 := F13.old hb1
           replace hb2 := F13.old hb2
           replace hO19 := hO19.fresh F13
           have hb13 : w32.heap[b13]? = some (.cells #[.string t.nm] 9) := F13.new
           replace hR := hR.freshF F13
           replace hB := Fr.below hR hB0 hB0.size hSge
           refine At.ops0 ?_
           refine At.wpcN (.cons rfl rfl rfl rfl (fun Lx => ?_) (.cons rfl rfl rfl rfl (fun Lx => ?_) (.cons rfl rfl rfl rfl (fun Lx => ?_) .nil))) ?_
           ·skip
            refine At.load rfl (Ld.ownCell ag64 hb1 rfl) rfl ?_
            refine At.ops0 ?_
            exact fun a ha => ⟨ha, rfl⟩
           ·skip
            refine At.nilCheck rfl rfl ?_
            refine At.ops0 ?_
            exact fun a ha => ⟨ha, rfl⟩
           ·skip
            refine At.fieldAddr rfl fo68_0 rfl ?_
            refine At.ops0 ?_
            exact fun a ha => ⟨ha, rfl⟩
           refine At.wpcE [6] (by kernel_rfl) (by kernel_rfl) (.cons [] rfl (by kernel_rfl) ?_ .nil)
           have hsz20 := hR.size
           refine At.call en20 rfl rfl (add_any b0 va19 (ls ++ (atomW u0)) (.slice (some ⟨b13, 0, none⟩) 1 1) ([t.nm]) w0 _ hB hbg ghO19 hb0 hO19 (StrsAt.own (ss := [t.nm]) hb13 rfl (by decide) : StrsAt _ (.slice (some ⟨b13, 0, none⟩) 1 1) [t.nm]) (by first | omega | (simp only [List.length_append, List.length_cons, List.length_nil] at hl ⊢; omega) | (simp only [List.length_append, List.length_cons, List.length_nil, eK_at hu0, aK_at hu0] at hl ⊢; omega) | (simp only [List.length_append, List.length_cons, List.length_nil, aK_at hu0, aK_at hu1] at hl ⊢; omega) | (rw [kK_at hu0] at hl; split at hl <;> simp only [List.length_append, List.length_cons, List.length_nil, eK_at hu0, aK_at hu0, aK_at hu1] at hl ⊢ <;> omega))) (fun e w33 hR' => ?_)
           obtain ⟨va20, rfl, hb0', hO20, hF20, hMn20⟩ := hR'
           refine ⟨_, rfl, ?_⟩
           have nn_b1 : ¬ (b1 = b0 ∨ some b1 = Value.ownBlock va19) := fun e => e.elim (Ne.symm n_b0_b1) (hO19.neT hb1 rfl)
           replace hb1 := hF20.old _ _ nn_b1 hb1
           have nn_b2 : ¬ (b2 = b0 ∨ some b2 = Value.ownBlock va19) := fun e => e.elim (Ne.symm n_b0_b2) (hO19.neT hb2 rfl)
           replace hb2 := hF20.old _ _ nn_b2 hb2
           have nn_b13 : ¬ (b13 = b0 ∨ some b13 = Value.ownBlock va19) := fun e => e.elim (Ne.symm n_b0_b13) q_hO19_b13
           replace hb13 := hF20.old _ _ nn_b13 hb13
           replace hb0 := hb0'
           have ghO20 := hMn20.ge (Nat.le_trans hB0.size hR.size) ghO19
           replace hR := Fr.then hR hF20 (ws_sub hM)
           replace hM := Moved.then hM (Nat.le_trans (Nat.le_refl _) hsz20) hMn20
           replace hB := Fr.below hR hB0 hB0.size hSge
           refine At.ops0 ?_
           refine At.wpcN .nil ?_
           refine At.wpcZ ?_
           refine At.thenN ?_
           refine At.drawG (n := 6) mixed (by kernel_rfl) rfl (PanicOk.block (PanicOk.block PanicOk.body)) ?_
           have hR := Fr.drewF hR
           have hB := Below.drewB hB
           have hb0 : _ := (show w33.drew.heap[b0]? = _ from hb0)
           have hb1 : _ := (show w33.drew.heap[b1]? = _ from hb1)
           have hb2 : _ := (show w33.drew.heap[b2]? = _ from hb2)
           have hb13 : _ := (show w33.drew.heap[b13]? = _ from hb13)
           have hO20 := hO20.drew
           refine At.wpcS (i := 0) (d := 145) (.pointer (some ⟨b0, 0, none⟩)) (by kernel_rfl) rfl rfl rfl (fun Lx => ?_) ?_
           ·skip
            refine At.load rfl (Ld.ownCell ag64 hb1 rfl) rfl ?_
            refine At.ops0 ?_
            exact fun a ha => ⟨ha, rfl⟩
           refine At.wpcS (i := 1) (d := 146) (.pointer (some ⟨b2, 0 + 5, none⟩)) (by kernel_rfl) rfl rfl rfl (fun Lx => ?_) ?_
           ·skip
            refine At.fieldAddr rfl fo33_5 rfl ?_
            refine At.ops0 ?_
            exact fun a ha => ⟨ha, rfl⟩
           refine At.wpcS (i := 2) (d := 147) (t.kv) (by kernel_rfl) rfl rfl rfl (fun Lx => ?_) ?_
           ·skip
            refine At.load rfl (Ld.ownCell ag24 hb2 (ht).c5) rfl ?_
            refine At.ops0 ?_
            exact fun a ha => ⟨ha, rfl⟩
           refine At.wpcS (i := 3) (d := 148) (.pointer (some ⟨vBlock t.kv, vOff t.kv + 1 * 21, none⟩)) (by kernel_rfl) rfl rfl rfl (fun Lx => ?_) ?_
           ·skip
            refine At.indexAddr (i := 1) rfl rfl ((ht).kidsAt).okL (lt_of_some hu1) el24 sz33 rfl ?_
            refine At.ops0 ?_
            exact fun a ha => ⟨ha, rfl⟩
           refine At.wpcS (i := 4) (d := 149) (.agg u1.cs) (by kernel_rfl) rfl rfl rfl (fun Lx => ?_) ?_
           ·skip
            refine At.load rfl (Ld.row ag33 (sz33.trans (congrArg some (((ht).kid hu1)).size.symm)) ((((ht).kidsAt).row hu1).keep hB)) rfl ?_
            refine At.ops0 ?_
            exact fun a ha => ⟨ha, rfl⟩
           refine At.wpcE [5] (by kernel_rfl) (by kernel_rfl) (.cons [] rfl (by kernel_rfl) ?_ .nil)
           have hsz21 := hR.size
           refine At.call en50 rfl rfl ((hka u1 (List.mem_of_getElem? hu1)) va20 ((ls ++ (atomW u0)) ++ [t.nm]) _ hB hbg ghO20 hb0 hO20 (by first | omega | (simp only [List.length_append, List.length_cons, List.length_nil] at hl ⊢; omega) | (simp only [List.length_append, List.length_cons, List.length_nil, eK_at hu0, aK_at hu0] at hl ⊢; omega) | (simp only [List.length_append, List.length_cons, List.length_nil, aK_at hu0, aK_at hu1] at hl ⊢; omega) | (rw [kK_at hu0] at hl; split at hl <;> simp only [List.length_append, List.length_cons, List.length_nil, eK_at hu0, aK_at hu0, aK_at hu1] at hl ⊢ <;> omega))) (fun e w34 hR' => ?_)
           obtain ⟨va21, rfl, hb0', hO21, hF21, hMn21⟩ := hR'
           refine ⟨_, rfl, ?_⟩
           have nn_b1 : ¬ (b1 = b0 ∨ some b1 = Value.ownBlock va20) := fun e => e.elim (Ne.symm n_b0_b1) (hO20.neT hb1 rfl)
           replace hb1 := hF21.old _ _ nn_b1 hb1
           have nn_b2 : ¬ (b2 = b0 ∨ some b2 = Value.ownBlock va20) := fun e => e.elim (Ne.symm n_b0_b2) (hO20.neT hb2 rfl)
           replace hb2 := hF21.old _ _ nn_b2 hb2
           clear hb13
           replace hb0 := hb0'
           have ghO21 := hMn21.ge (Nat.le_trans hB0.size hR.size) ghO20
           replace hR := Fr.then hR hF21 (ws_sub hM)
           replace hM := Moved.then hM (Nat.le_trans (Nat.le_refl _) hsz21) hMn21
           replace hB := Fr.below hR hB0 hB0.size hSge
           refine At.ops0 ?_
           refine At.wpcN .nil ?_
           refine At.wpcZ ?_
           refine At.inN ?_
           refine At.inN ?_
           refine At.doneN (ResV.nil) ?_
           have hq : (((ls ++ (atomW u0)) ++ [t.nm]) ++ (atomW u1)) = ls ++ exprW t := by rw [hw] <;> simp [eK_at hu0, aK_at hu0, kK_at hu0, eK_at hu1, aK_at hu1, kK_at hu1]
           exact ⟨va21, rfl, hb0, hq ▸ hO21, hR, hM⟩
          ·skip
           have hc11' := of_decide_eq_false hc11
           refine At.seq ?_
           refine At.region ?_
           refine At.eqI rfl rfl rfl ?_
           refine At.assign rfl rfl ?_
           refine At.ops0 ?_
           refine At.thenN ?_
           refine At.cond (b := decide ((t.kids.length : Int) = 1)) rfl (fun hc12 => ?_) (fun hc12 => ?_)
           ·skip
            have hc12' := of_decide_eq_true hc12
            refine At.seq ?_
            have hk10 := hr.k10 hc10'
            have hnm : t.nm ≠ (⟨#[114, 101, 97, 100]⟩ : ByteArray) := fun e => by rw [e, kids_read] at hk10; omega
            have hw := exprW_op1 hc10' hnm (by omega)
            rw [hw] at hl
            obtain ⟨u0, hu0⟩ := some_of_lt (l := t.kids) (i := 0) (by omega)
            refine At.drawG (n := 7) mixed (by kernel_rfl) rfl (PanicOk.then (PanicOk.block (PanicOk.block PanicOk.body))) ?_
            have hR := Fr.drewF hR
            have hB := Below.drewB hB
            have hb0 : _ := (show w2.drew.heap[b0]? = _ from hb0)
            have hb1 : _ := (show w2.drew.heap[b1]? = _ from hb1)
            have hb2 : _ := (show w2.drew.heap[b2]? = _ from hb2)
            have hO := hO.drew
            refine At.wpcS (i := 0) (d := 153) (.pointer (some ⟨b0, 0, none⟩)) (by kernel_rfl) rfl rfl rfl (fun Lx => ?_) ?_
            ·skip
             refine At.load rfl (Ld.ownCell ag64 hb1 rfl) rfl ?_
             refine At.ops0 ?_
             exact fun a ha => ⟨ha, rfl⟩
            refine At.wpcS (i := 1) (d := 154) (.pointer (some ⟨b0, 0, none⟩)) (by kernel_rfl) rfl rfl rfl (fun Lx => ?_) ?_
            ·skip
             refine At.nilCheck rfl rfl ?_
             refine At.ops0 ?_
             exact fun a ha => ⟨ha, rfl⟩
            refine At.wpcS (i := 2) (d := 155) (.pointer (some ⟨b0, 0 + 0, none⟩)) (by kernel_rfl) rfl rfl rfl (fun Lx => ?_) ?_
            ·skip
             refine At.fieldAddr rfl fo68_0 rfl ?_
             refine At.ops0 ?_
             exact fun a ha => ⟨ha, rfl⟩
            refine At.wpcS (i := 3) (d := 156) (.pointer (some ⟨b2, 0 + 2, none⟩)) (by kernel_rfl) rfl rfl rfl (fun Lx => ?_) ?_
            ·skip
             refine At.fieldAddr rfl fo33_2 rfl ?_
             refine At.ops0 ?_
             exact fun a ha => ⟨ha, rfl⟩
            refine At.wpcS (i := 4) (d := 157) (.string t.nm) (by kernel_rfl) rfl rfl rfl (fun Lx => ?_) ?_
            ·skip
             refine At.load rfl (Ld.ownCell ag9 hb2 (ht).c2) rfl ?_
             refine At.ops0 ?_
             exact fun a ha => ⟨ha, rfl⟩
            refine At.wpcE [5] (by kernel_rfl) (by kernel_rfl) (.cons [0, 1, 2] rfl (by kernel_rfl) ?_ .nil)
            refine At.buildSlice (xs := [.tmp 157]) rfl rfl el27 sz9 ze9 (by intro v hv; simp only [List.mem_cons, List.not_mem_nil, or_false] at hv; rcases hv with rfl <;> first | rfl | simp [Value.cells, Value.cells]) rfl (by decide) rfl (fun b14 w35 F14 => ?_)
            have q_hO_b14 : some b14 ≠ Value.ownBlock v := Own.neFresh hO F14
            have n_b0_b14 : b0 ≠ b14 := Nat.ne_of_lt (F14.lt hb0)
            have n_b1_b14 : b1 ≠ b14 := Nat.ne_of_lt (F14.lt hb1)
            have n_b2_b14 : b2 ≠ b14 := Nat.ne_of_lt (F14.lt hb2)
            have gb14 := Nat.le_trans hR.size (Nat.le_of_eq F14.eq.symm)
            replace hb0 := F14.old hb0
            replace hb1 := F14.old hb1
            replace hb2 := F14.old hb2
            replace hO := hO.fresh F14
            have hb14 : w35.heap[b14]? = some (.cells #[.string t.nm] 9) := F14.new
            replace hR := hR.freshF F14
            replace hB := Fr.below hR hB0 hB0.size hSge
            refine At.ops0 ?_
            refine At.wpcN (.cons rfl rfl rfl rfl (fun Lx => ?_) (.cons rfl rfl rfl rfl (fun Lx => ?_) (.cons rfl rfl rfl rfl (fun Lx => ?_) .nil))) ?_
            ·skip
             refine At.load rfl (Ld.ownCell ag64 hb1 rfl) rfl ?_
             refine At.ops0 ?_
             exact fun a ha => ⟨ha, rfl⟩
            ·skip
             refine At.nilCheck rfl rfl ?_
             refine At.ops0 ?_
             exact fun a ha => ⟨ha, rfl⟩
            ·skip
             refine At.fieldAddr rfl fo68_0 rfl ?_
             refine At.ops0 ?_
             exact fun a ha => ⟨ha, rfl⟩
            refine At.wpcE [6] (by kernel_rfl) (by kernel_rfl) (.cons [] rfl (by kernel_rfl) ?_ .nil)
            have hsz22 := hR.size
            refine At.call en20 rfl rfl (add_any b0 v ls (.slice (some ⟨b14, 0, none⟩) 1 1) ([t.nm]) w0 _ hB hbg gO hb0 hO (StrsAt.own (ss := [t.nm]) hb14 rfl (by decide) : StrsAt _ (.slice (some ⟨b14, 0, none⟩) 1 1) [t.nm]) (by first | omega | (simp only [List.length_append, List.length_cons, List.length_nil] at hl ⊢; omega) | (simp only [List.length_append, List.length_cons, List.length_nil, eK_at hu0, aK_at hu0] at hl ⊢; omega) | (simp only [List.length_append, List.length_cons, List.length_nil, aK_at hu0, aK_at hu1] at hl ⊢; omega) | (rw [kK_at hu0] at hl; split at hl <;> simp only [List.length_append, List.length_cons, List.length_nil, eK_at hu0, aK_at hu0, aK_at hu1] at hl ⊢ <;> omega))) (fun e w36 hR' => ?_)
            obtain ⟨va22, rfl, hb0', hO22, hF22, hMn22⟩ := hR'
            refine ⟨_, rfl, ?_⟩
            have nn_b1 : ¬ (b1 = b0 ∨ some b1 = Value.ownBlock v) := fun e => e.elim (Ne.symm n_b0_b1) (hO.neT hb1 rfl)
            replace hb1 := hF22.old _ _ nn_b1 hb1
            have nn_b2 : ¬ (b2 = b0 ∨ some b2 = Value.ownBlock v) := fun e => e.elim (Ne.symm n_b0_b2) (hO.neT hb2 rfl)
            replace hb2 := hF22.old _ _ nn_b2 hb2
            have nn_b14 : ¬ (b14 = b0 ∨ some b14 = Value.ownBlock v) := fun e => e.elim (Ne.symm n_b0_b14) q_hO_b14
            replace hb14 := hF22.old _ _ nn_b14 hb14
            replace hb0 := hb0'
            have ghO22 := hMn22.ge (Nat.le_trans hB0.size hR.size) gO
            replace hR := Fr.then hR hF22 (ws_sub hM)
            replace hM := Moved.then hM (Nat.le_trans (Nat.le_refl _) hsz22) hMn22
            replace hB := Fr.below hR hB0 hB0.size hSge
            refine At.ops0 ?_
            refine At.wpcN .nil ?_
            refine At.wpcZ ?_
            refine At.thenN ?_
            refine At.drawG (n := 6) mixed (by kernel_rfl) rfl (PanicOk.block (PanicOk.block PanicOk.body)) ?_
            have hR := Fr.drewF hR
            have hB := Below.drewB hB
            have hb0 : _ := (show w36.drew.heap[b0]? = _ from hb0)
            have hb1 : _ := (show w36.drew.heap[b1]? = _ from hb1)
            have hb2 : _ := (show w36.drew.heap[b2]? = _ from hb2)
            have hb14 : _ := (show w36.drew.heap[b14]? = _ from hb14)
            have hO22 := hO22.drew
            refine At.wpcS (i := 0) (d := 160) (.pointer (some ⟨b0, 0, none⟩)) (by kernel_rfl) rfl rfl rfl (fun Lx => ?_) ?_
            ·skip
             refine At.load rfl (Ld.ownCell ag64 hb1 rfl) rfl ?_
             refine At.ops0 ?_
             exact fun a ha => ⟨ha, rfl⟩
            refine At.wpcS (i := 1) (d := 161) (.pointer (some ⟨b2, 0 + 5, none⟩)) (by kernel_rfl) rfl rfl rfl (fun Lx => ?_) ?_
            ·skip
             refine At.fieldAddr rfl fo33_5 rfl ?_
             refine At.ops0 ?_
             exact fun a ha => ⟨ha, rfl⟩
            refine At.wpcS (i := 2) (d := 162) (t.kv) (by kernel_rfl) rfl rfl rfl (fun Lx => ?_) ?_
            ·skip
             refine At.load rfl (Ld.ownCell ag24 hb2 (ht).c5) rfl ?_
             refine At.ops0 ?_
             exact fun a ha => ⟨ha, rfl⟩
            refine At.wpcS (i := 3) (d := 163) (.pointer (some ⟨vBlock t.kv, vOff t.kv + 0 * 21, none⟩)) (by kernel_rfl) rfl rfl rfl (fun Lx => ?_) ?_
            ·skip
             refine At.indexAddr (i := 0) rfl rfl ((ht).kidsAt).okL (lt_of_some hu0) el24 sz33 rfl ?_
             refine At.ops0 ?_
             exact fun a ha => ⟨ha, rfl⟩
            refine At.wpcS (i := 4) (d := 164) (.agg u0.cs) (by kernel_rfl) rfl rfl rfl (fun Lx => ?_) ?_
            ·skip
             refine At.load rfl (Ld.row ag33 (sz33.trans (congrArg some (((ht).kid hu0)).size.symm)) ((((ht).kidsAt).row hu0).keep hB)) rfl ?_
             refine At.ops0 ?_
             exact fun a ha => ⟨ha, rfl⟩
            refine At.wpcE [5] (by kernel_rfl) (by kernel_rfl) (.cons [] rfl (by kernel_rfl) ?_ .nil)
            have hsz23 := hR.size
            refine At.call en50 rfl rfl ((hka u0 (List.mem_of_getElem? hu0)) va22 (ls ++ [t.nm]) _ hB hbg ghO22 hb0 hO22 (by first | omega | (simp only [List.length_append, List.length_cons, List.length_nil] at hl ⊢; omega) | (simp only [List.length_append, List.length_cons, List.length_nil, eK_at hu0, aK_at hu0] at hl ⊢; omega) | (simp only [List.length_append, List.length_cons, List.length_nil, aK_at hu0, aK_at hu1] at hl ⊢; omega) | (rw [kK_at hu0] at hl; split at hl <;> simp only [List.length_append, List.length_cons, List.length_nil, eK_at hu0, aK_at hu0, aK_at hu1] at hl ⊢ <;> omega))) (fun e w37 hR' => ?_)
            obtain ⟨va23, rfl, hb0', hO23, hF23, hMn23⟩ := hR'
            refine ⟨_, rfl, ?_⟩
            have nn_b1 : ¬ (b1 = b0 ∨ some b1 = Value.ownBlock va22) := fun e => e.elim (Ne.symm n_b0_b1) (hO22.neT hb1 rfl)
            replace hb1 := hF23.old _ _ nn_b1 hb1
            have nn_b2 : ¬ (b2 = b0 ∨ some b2 = Value.ownBlock va22) := fun e => e.elim (Ne.symm n_b0_b2) (hO22.neT hb2 rfl)
            replace hb2 := hF23.old _ _ nn_b2 hb2
            clear hb14
            replace hb0 := hb0'
            have ghO23 := hMn23.ge (Nat.le_trans hB0.size hR.size) ghO22
            replace hR := Fr.then hR hF23 (ws_sub hM)
            replace hM := Moved.then hM (Nat.le_trans (Nat.le_refl _) hsz23) hMn23
            replace hB := Fr.below hR hB0 hB0.size hSge
            refine At.ops0 ?_
            refine At.wpcN .nil ?_
            refine At.wpcZ ?_
            refine At.inN ?_
            refine At.inN ?_
            refine At.doneN (ResV.nil) ?_
            have hq : ((ls ++ [t.nm]) ++ (atomW u0)) = ls ++ exprW t := by rw [hw] <;> simp [eK_at hu0, aK_at hu0, kK_at hu0]
            exact ⟨va23, rfl, hb0, hq ▸ hO23, hR, hM⟩
           ·skip
            have hc12' := of_decide_eq_false hc12
            have hk10 := hr.k10 hc10'
            have hz0 : kidsOf t.nm = 0 := by have h3 := kidsOf_cases t.nm; omega
            have hnm := kids_zero hz0
            have hex := hsim (.inr (.inr (.inr (.inr (.inr ⟨hc10', hnm⟩)))))
            have hw := exprW_read hc10' hnm (by omega) (by omega)
            rw [hw] at hl
            refine At.region ?_
            refine At.load rfl (Ld.ownCell ag64 hb1 rfl) rfl ?_
            refine At.load rfl (Ld.own ag33 (sz33.trans (congrArg some (ht).size.symm)) hb2) rfl ?_
            have hsz24 := hR.size
            refine At.call en50 rfl rfl (hex v ls _ hB hbg gO hb0 hO (by first | omega | (simp only [List.length_append, List.length_cons, List.length_nil] at hl ⊢; omega) | (simp only [List.length_append, List.length_cons, List.length_nil, eK_at hu0, aK_at hu0] at hl ⊢; omega) | (simp only [List.length_append, List.length_cons, List.length_nil, aK_at hu0, aK_at hu1] at hl ⊢; omega) | (rw [kK_at hu0] at hl; split at hl <;> simp only [List.length_append, List.length_cons, List.length_nil, eK_at hu0, aK_at hu0, aK_at hu1] at hl ⊢ <;> omega))) (fun e w38 hR' => ?_)
            obtain ⟨va24, rfl, hb0', hO24, hF24, hMn24⟩ := hR'
            refine ⟨_, rfl, ?_⟩
            have nn_b1 : ¬ (b1 = b0 ∨ some b1 = Value.ownBlock v) := fun e => e.elim (Ne.symm n_b0_b1) (hO.neT hb1 rfl)
            replace hb1 := hF24.old _ _ nn_b1 hb1
            have nn_b2 : ¬ (b2 = b0 ∨ some b2 = Value.ownBlock v) := fun e => e.elim (Ne.symm n_b0_b2) (hO.neT hb2 rfl)
            replace hb2 := hF24.old _ _ nn_b2 hb2
            replace hb0 := hb0'
            have ghO24 := hMn24.ge (Nat.le_trans hB0.size hR.size) gO
            replace hR := Fr.then hR hF24 (ws_sub hM)
            replace hM := Moved.then hM (Nat.le_trans (Nat.le_refl _) hsz24) hMn24
            replace hB := Fr.below hR hB0 hB0.size hSge
            refine At.ops0 ?_
            refine At.inN ?_
            refine At.inN ?_
            refine At.doneN (ResV.nil) ?_
            have hq : (ls ++ (atomW t)) = ls ++ exprW t := by rw [hw]
            exact ⟨va24, rfl, hb0, hq ▸ hO24, hR, hM⟩
         ·skip
          have hc10' := of_decide_eq_false hc10
          have hlo := hr.lo; have hhi := hr.hi
          have hsk : t.k = 1 ∨ t.k = 2 ∨ t.k = 3 ∨ t.k = 4 ∨ t.k = 11 := by omega
          have hex := hsim (by rcases hsk with h | h | h | h | h <;> simp [h])
          have hw : exprW t = atomW t := by rcases hsk with h | h | h | h | h; exact exprW_1 h; exact exprW_2 h; exact exprW_3 h; exact exprW_4 h; exact exprW_11 h
          rw [hw] at hl
          refine At.region ?_
          refine At.load rfl (Ld.ownCell ag64 hb1 rfl) rfl ?_
          refine At.load rfl (Ld.own ag33 (sz33.trans (congrArg some (ht).size.symm)) hb2) rfl ?_
          have hsz25 := hR.size
          refine At.call en50 rfl rfl (hex v ls _ hB hbg gO hb0 hO (by first | omega | (simp only [List.length_append, List.length_cons, List.length_nil] at hl ⊢; omega) | (simp only [List.length_append, List.length_cons, List.length_nil, eK_at hu0, aK_at hu0] at hl ⊢; omega) | (simp only [List.length_append, List.length_cons, List.length_nil, aK_at hu0, aK_at hu1] at hl ⊢; omega) | (rw [kK_at hu0] at hl; split at hl <;> simp only [List.length_append, List.length_cons, List.length_nil, eK_at hu0, aK_at hu0, aK_at hu1] at hl ⊢ <;> omega))) (fun e w39 hR' => ?_)
          obtain ⟨va25, rfl, hb0', hO25, hF25, hMn25⟩ := hR'
          refine ⟨_, rfl, ?_⟩
          have nn_b1 : ¬ (b1 = b0 ∨ some b1 = Value.ownBlock v) := fun e => e.elim (Ne.symm n_b0_b1) (hO.neT hb1 rfl)
          replace hb1 := hF25.old _ _ nn_b1 hb1
          have nn_b2 : ¬ (b2 = b0 ∨ some b2 = Value.ownBlock v) := fun e => e.elim (Ne.symm n_b0_b2) (hO.neT hb2 rfl)
          replace hb2 := hF25.old _ _ nn_b2 hb2
          replace hb0 := hb0'
          have ghO25 := hMn25.ge (Nat.le_trans hB0.size hR.size) gO
          replace hR := Fr.then hR hF25 (ws_sub hM)
          replace hM := Moved.then hM (Nat.le_trans (Nat.le_refl _) hsz25) hMn25
          replace hB := Fr.below hR hB0 hB0.size hSge
          refine At.ops0 ?_
          refine At.inN ?_
          refine At.doneN (ResV.nil) ?_
          have hq : (ls ++ (atomW t)) = ls ++ exprW t := by rw [hw]
          exact ⟨va25, rfl, hb0, hq ▸ hO25, hR, hM⟩
end Go.Proofs.YtkclecfbjfdfkaaGreatDoor
