/-
 The walks of names, types, lists. Written by a program of ours.
-/
import Derived.Test.YtkjmjnddanhapaaU1
set_option linter.unusedVariables false
set_option linter.unusedSimpArgs false
namespace Go.Proofs.Ytkjmjnddanhapaa
open Go.RowKit
theorem ag33 : aggB Try.prog 33 = some true := by kernel_rfl
theorem by9 : bytesB Try.prog 9 = some 16 := by kernel_rfl
theorem en65 : entB Try.prog 65 = true := by kernel_rfl
theorem en66 : entB Try.prog 66 = true := by kernel_rfl
theorem fo33_0 : fieldB Try.prog 33 0 = some (0, 1) := by kernel_rfl
theorem fo33_1 : fieldB Try.prog 33 1 = some (1, 1) := by kernel_rfl
theorem ft47_1 : fieldTB Try.prog 47 1 = some (1, 9) := by kernel_rfl
theorem sd33 : sizedB Try.prog 33 = true := by kernel_rfl
theorem sz33 : sizeB Try.prog 33 = some 6 := by kernel_rfl
theorem ze33 : zeroB Try.prog 33 = some (.agg #[.int .i64 0, .string (⟨#[]⟩ : ByteArray), .int .i64 0, (.slice none 0 0), (.slice none 0 0), .int .i64 0]) := by kernel_rfl
theorem names_any {wB : World} {b0 : Nat} {en dp : Int} (ts : List Tk) (v : Value) (n : Nat) (w : World) (hB0 : Below wB.heap.size wB w) (hSge : ∀ k, k = b0 → wB.heap.size ≤ k) (hts : RowsAt wB v 4 (ts.map Tk.cs)) (hb0 : w.heap[b0]? = some (.cells #[v, .int .i64 en, .int .i64 dp] 81)) (hn : n ≤ 100) :
  Calls Try.prog 75 ([.pointer (some ⟨b0, 0, none⟩), .int .i64 (n : Int)] : List Value).toArray w fun e w' => RetP (fun k => k = b0) wB b0 en dp (okNs 9 w) (namesP en n [] ts) w e w' := by
 have hR := Fr.refl (fun k => k = b0) w
 have hB := hB0
 refine At.enter (N := 17) Try.func75 rfl rfl (by simp) [(0, .pointer (some ⟨b0, 0, none⟩)), (1, .int .i64 (n : Int))] (by simp) ?_
 refine .seq (.region (.assign rfl rfl (.ops0 (.thenN (.seq (.region (.assign rfl rfl (.ops0 (.thenN (.seq (.seq (.region (.move rfl rfl (.move rfl rfl (.ops0 (.thenN (.block ?_)))))))))))))))))
 refine At.loop (Nat × List Tk × Value × List ByteArray × Value) (fun (k, us, vr, l, vl) => [(0, .pointer (some ⟨b0, 0, none⟩)), (5, vl), (6, .int .i64 (n : Int)), (7, .int .i64 (k : Int))]) (fun (k, us, vr, l, vl) w1 => Fr (fun k => k = b0) w w1 ∧ w1.heap[b0]? = some (.cells #[vr, .int .i64 en, .int .i64 dp] 81) ∧ OwnS 9 w1 vl l ∧ (k ≤ n) ∧ (RowsAt wB vr 4 (us.map Tk.cs)) ∧ (namesP en n [] ts = namesP en (n - k) l us) ∧ (∀ g, Value.ownBlock vl = some g → w.heap.size ≤ g) ∧ (l.length = k)) (fun (k, us, vr, l, vl) => n - k) (0, ts, v, [], zN) (Sub.cons rfl (Sub.cons rfl (Sub.cons rfl (Sub.cons rfl Sub.nil)))) ⟨hR, hb0, OwnS.nil 9 _, (Nat.zero_le _), (hts), (rfl), (fun g h => by cases h), (rfl)⟩ (fun gh w1 hI => ?_)
 obtain ⟨k, us, vr, l, vl⟩ := gh
 clear hR hB hb0
 obtain ⟨hR, hb0, hO, hkb, hus, hs, gO, hll⟩ := hI
 have hB := Fr.below hR hB0 hB0.size hSge
 show At _ _ [(0, .pointer (some ⟨b0, 0, none⟩)), (5, vl), (6, .int .i64 (n : Int)), (7, .int .i64 (k : Int))] _ _
 refine .seq (.region (.lss rfl rfl rfl (.ops0 (.thenN (.seq ?_)))))
 refine At.cond (b := decide ((k : Int) < (n : Int))) rfl (fun hc1 => ?_) (fun hc1 => ?_)
 ·skip
  have hc1' := of_decide_eq_true hc1
  refine .skip (.thenN (.seq (.block (.region (.move rfl rfl (.move rfl rfl ?_))))))
  refine At.callP en66 rfl rfl (word_any us vr 2 _ hB hSge hus hb0 (by decide)) (fun e wp1 hR' => ?_)
  rcases hR'.cases.symm with ⟨ba, bc, hq1, rfl, hF1, hbb⟩ | ⟨x1, us1, val1, vr1, hq1, rfl, hF1, hts1, hbo1, ho1⟩
  ·exact .inr ⟨_, rfl, (Pk.block (Pk.then (Pk.then (Pk.block (Pk.then (Pk.body (RetP.bad (by rw [hs, show n - k = (n - (k + 1)) + 1 by omega, namesP]; simp only [SB, hc1, hq1] <;> rfl) (Fr.then hR hF1 (fun k hk => .inl hk)) hbb)))))))⟩
  refine .inl ⟨_, rfl, ?_⟩
  replace hO := OwnS.frB hO hF1 hb0 rfl
  replace hb0 := hbo1
  have hsz1 := hR.size
  replace hR := Fr.then hR hF1 (fun k hk => .inl hk)
  replace hB := Fr.below hR hB0 hB0.size hSge
  obtain rfl := ho1
  refine .fieldC rfl ft47_1 ag9 (((tk_ok x1)).c1) rfl ?_
  refine At.buildSlice (xs := [.tmp 12]) rfl rfl el29 sz9 ze9 (by intro v hv; simp only [List.mem_cons, List.not_mem_nil, or_false] at hv; rcases hv with rfl <;> first | rfl | simp [Value.cells]) rfl (by decide) rfl (fun b1 w2 F1 => ?_)
  have q_hO_b1 : some b1 ≠ Value.ownBlock vl := Own.neFresh hO F1
  have n_b0_b1 : b0 ≠ b1 := Nat.ne_of_lt (F1.lt hb0)
  have gb1 := Nat.le_trans hR.size (Nat.le_of_eq F1.eq.symm)
  replace hb0 := F1.old hb0
  replace hO := hO.fresh F1
  have hb1 : w2.heap[b1]? = some (.cells #[.string (bs x1.t)] 9) := F1.new
  replace hR := hR.freshF F1
  replace hB := Fr.below hR hB0 hB0.size hSge
  refine At.appendS (ss := l) rfl rfl el29 el29 sz9 by9 ze9 rfl hO ((StrsAt.own (ss := [(bs x1.t)]) hb1 rfl (by decide) : StrsAt _ (.slice (some ⟨b1, 0, none⟩) 1 1) [(bs x1.t)])) (by first | omega | (simp; omega)) rfl (fun va1 w3 hO1 hA1 => ?_)
  replace hb0 := hA1.old hb0 (hO.neT hb0 rfl)
  clear hb1
  have ghO1 := hA1.ge hR.size gO
  replace hR := hR.appF hA1 (fun g hg => .inr (gO g hg))
  replace hB := Fr.below hR hB0 hB0.size hSge
  refine .assign rfl rfl (.ops0 (.inN (.thenN (.region (.addI rfl rfl rfl (by first | omega | (simp; omega)) (.move rfl rfl (.ops0 (.thenN ?_))))))))
  exact fun act_ hact_ => ⟨((k + 1), us1, vr1, (l ++ [(bs x1.t)]), va1), hact_.sub (Sub.cons rfl (Sub.cons rfl (Sub.cons rfl (Sub.cons rfl Sub.nil)))), ⟨hR, hb0, hO1, (by omega), (hts1), (by rw [hs, show n - k = (n - (k + 1)) + 1 by omega, namesP]; simp only [hc1, hq1, PR.bind_ok]), (ghO1), (by simp [hll])⟩, by first | omega | (dsimp only; omega)⟩
 ·skip
  have hc1' := of_decide_eq_false hc1
  refine .exit (.thenE (.thenE (.inE (.thenN (.seq (.region (.move rfl rfl (.assign rfl rfl (.ops0 (.thenN (.retc (.doneR (ResV.tmp rfl ResV.nil) ?_))))))))))))
  exact RetP.ok (by rw [hs, show n - k = 0 by omega, namesP]) hR hus hb0 ⟨hO, gO⟩
theorem typ_any {wB : World} {b0 : Nat} {en dp : Int} (ts : List Tk) (v : Value) (w : World) (hB0 : Below wB.heap.size wB w) (hSge : ∀ k, k = b0 → wB.heap.size ≤ k) (hts : RowsAt wB v 4 (ts.map Tk.cs)) (hb0 : w.heap[b0]? = some (.cells #[v, .int .i64 en, .int .i64 dp] 81)) :
  Calls Try.prog 69 ([.pointer (some ⟨b0, 0, none⟩)] : List Value).toArray w fun e w' => RetP (fun k => k = b0) wB b0 en dp okTy (typP en ts) w e w' := by
 have hR := Fr.refl (fun k => k = b0) w
 have hB := hB0
 refine At.enter (N := 23) Try.func69 rfl rfl (by simp) [(0, .pointer (some ⟨b0, 0, none⟩))] (by simp) ?_
 refine .seq (.region ?_)
 refine At.alloc ze33 rfl (fun b1 w1 F1 => ?_)
 have n_b0_b1 : b0 ≠ b1 := Nat.ne_of_lt (F1.lt hb0)
 have gb1 := Nat.le_trans hR.size (Nat.le_of_eq F1.eq.symm)
 replace hb0 := F1.old hb0
 have hb1 : w1.heap[b1]? = some (.cells #[zI, zS, zI, zN, zN, zI] 33) := F1.new
 replace hR := hR.freshF F1
 replace hB := Fr.below hR hB0 hB0.size hSge
 refine .ops0 (.thenN (.seq (.region ?_)))
 refine At.buildSlice (xs := [.const (.string (⟨#[105, 110, 116]⟩ : ByteArray)), .const (.string (⟨#[98, 111, 111, 108]⟩ : ByteArray)), .const (.string (⟨#[117, 110, 105, 116]⟩ : ByteArray))]) rfl rfl el29 sz9 ze9 (by intro v hv; simp only [List.mem_cons, List.not_mem_nil, or_false] at hv; rcases hv with rfl | rfl | rfl <;> first | rfl | simp [Value.cells]) rfl (by decide) rfl (fun b2 w2 F2 => ?_)
 have n_b0_b2 : b0 ≠ b2 := Nat.ne_of_lt (F2.lt hb0)
 have n_b1_b2 : b1 ≠ b2 := Nat.ne_of_lt (F2.lt hb1)
 have gb2 := Nat.le_trans hR.size (Nat.le_of_eq F2.eq.symm)
 replace hb0 := F2.old hb0
 replace hb1 := F2.old hb1
 have hb2 : w2.heap[b2]? = some (.cells #[.string (⟨#[105, 110, 116]⟩ : ByteArray), .string (⟨#[98, 111, 111, 108]⟩ : ByteArray), .string (⟨#[117, 110, 105, 116]⟩ : ByteArray)] 9) := F2.new
 replace hR := hR.freshF F2
 replace hB := Fr.below hR hB0 hB0.size hSge
 refine .assign rfl rfl (.ops0 (.thenN (.seq (.seq (.region (.move rfl rfl (.nilCheck rfl rfl (.fieldAddr rfl fo81_0 rfl (.move rfl rfl ?_)))))))))
 refine At.call en43 rfl rfl (is_any ts v (.slice (some ⟨b2, 0, none⟩) 3 3) ([(⟨#[105, 110, 116]⟩ : ByteArray), (⟨#[98, 111, 111, 108]⟩ : ByteArray), (⟨#[117, 110, 105, 116]⟩ : ByteArray)]) _ ((hts).keep hB) hb0 ((StrsAt.own (ss := [(⟨#[105, 110, 116]⟩ : ByteArray), (⟨#[98, 111, 111, 108]⟩ : ByteArray), (⟨#[117, 110, 105, 116]⟩ : ByteArray)]) hb2 rfl (by decide) : StrsAt _ (.slice (some ⟨b2, 0, none⟩) 3 3) [(⟨#[105, 110, 116]⟩ : ByteArray), (⟨#[98, 111, 111, 108]⟩ : ByteArray), (⟨#[117, 110, 105, 116]⟩ : ByteArray)]))) (fun e w3 hR' => ?_)
 obtain ⟨rfl, hbl1⟩ := hR'
 refine ⟨_, rfl, ?_⟩
 replace hb0 := Below.old hbl1 hb0
 replace hb1 := Below.old hbl1 hb1
 replace hb2 := Below.old hbl1 hb2
 replace hR := hR.callF hbl1
 replace hB := Fr.below hR hB0 hB0.size hSge
 refine .ops0 (.thenN ?_)
 refine At.cond (b := (isK en ts ([(⟨#[105, 110, 116]⟩ : ByteArray), (⟨#[98, 111, 111, 108]⟩ : ByteArray), (⟨#[117, 110, 105, 116]⟩ : ByteArray)]))) rfl (fun hc1 => ?_) (fun hc1 => ?_)
 ·skip
  refine .seq (.region (.move rfl rfl (.move rfl rfl (.nilCheck rfl rfl (.fieldAddr rfl fo81_0 rfl ?_)))))
  refine At.call en74 rfl rfl (ptake_any ts v _ hB hSge hts hb0 (is_len hc1)) (fun e wp1 hR' => ?_)
  obtain ⟨vr1, rfl, hts1, hbo1, hF1⟩ := hR'
  refine ⟨_, rfl, ?_⟩
  replace hb1 := Fr.oldB hF1 hb1 (n_b0_b1.symm)
  replace hb2 := Fr.oldB hF1 hb2 (n_b0_b2.symm)
  replace hb0 := hbo1
  replace hR := Fr.then hR hF1 (fun k hk => .inl hk)
  replace hB := Fr.below hR hB0 hB0.size hSge
  refine .fieldC rfl ft47_1 ag9 (((tk_ok (nx en ts))).c1) rfl ?_
  refine At.call en85 rfl rfl (index_any (.slice (some ⟨b2, 0, none⟩) 3 3) ([(⟨#[105, 110, 116]⟩ : ByteArray), (⟨#[98, 111, 111, 108]⟩ : ByteArray), (⟨#[117, 110, 105, 116]⟩ : ByteArray)]) (bs ((nx en ts).t)) _ (StrsAt.own (ss := [(⟨#[105, 110, 116]⟩ : ByteArray), (⟨#[98, 111, 111, 108]⟩ : ByteArray), (⟨#[117, 110, 105, 116]⟩ : ByteArray)]) hb2 rfl (by decide) : StrsAt _ (.slice (some ⟨b2, 0, none⟩) 3 3) [(⟨#[105, 110, 116]⟩ : ByteArray), (⟨#[98, 111, 111, 108]⟩ : ByteArray), (⟨#[117, 110, 105, 116]⟩ : ByteArray)]) (by first | decide | (have := idxI_bd (fun x : ByteArray => decide (x = bs (nx en ts).t)) tyWords; simp only [tyWords, List.length_cons, List.length_nil] at this; omega))) (fun e w' hR => ?_)
  obtain ⟨rfl, rfl⟩ := hR
  refine ⟨_, rfl, ?_⟩
  refine .addI rfl rfl rfl (by first | decide | (have := idxI_bd (fun x : ByteArray => decide (x = bs (nx en ts).t)) tyWords; simp only [tyWords, List.length_cons, List.length_nil] at this; omega)) (.build (C := #[.int .i64 (1 + (idxI (fun x : ByteArray => decide (x = (bs ((nx en ts).t)))) [(⟨#[105, 110, 116]⟩ : ByteArray), (⟨#[98, 111, 111, 108]⟩ : ByteArray), (⟨#[117, 110, 105, 116]⟩ : ByteArray)])), zS, zI, zN, zN, zI]) sd33 ze33 rfl (Bld.cons fo33_0 rfl (by first | decide | exact Nat.le_of_ble_eq_true rfl) (Bld.nil _)) rfl ?_)
  refine At.storeAll rfl rfl hb1 sz33 rfl (by first | (simp [Value.oneCell', ((SlOk.nil)).one]; done) | (simp only [List.all_toArray, List.all_cons, List.all_nil, ((SlOk.nil)).one, Bool.and_true, Bool.true_and]; rfl)) (fun w4 S1 => ?_)
  replace hb0 := S1.other hb0 n_b0_b1
  replace hb2 := S1.other hb2 n_b1_b2.symm
  replace hb1 : w4.heap[b1]? = some (.cells #[.int .i64 (1 + (idxI (fun x : ByteArray => decide (x = (bs ((nx en ts).t)))) [(⟨#[105, 110, 116]⟩ : ByteArray), (⟨#[98, 111, 111, 108]⟩ : ByteArray), (⟨#[117, 110, 105, 116]⟩ : ByteArray)])), zS, zI, zN, zN, zI] 33) := S1.new
  replace hR := hR.setF S1 (.inr gb1)
  replace hB := Fr.below hR hB0 hB0.size hSge
  refine .ops0 (.thenN (.retc (.thenR (.doneR (ResV.cell rfl (Ld.own (C := #[.int .i64 (1 + (idxI (fun x : ByteArray => decide (x = (bs ((nx en ts).t)))) [(⟨#[105, 110, 116]⟩ : ByteArray), (⟨#[98, 111, 111, 108]⟩ : ByteArray), (⟨#[117, 110, 105, 116]⟩ : ByteArray)])), zS, zI, zN, zN, zI]) ag33 sz33 hb1) ResV.nil) ?_))))
  exact RetP.ok (x := (⟨(1 + (idxI (fun x : ByteArray => decide (x = (bs ((nx en ts).t)))) [(⟨#[105, 110, 116]⟩ : ByteArray), (⟨#[98, 111, 111, 108]⟩ : ByteArray), (⟨#[117, 110, 105, 116]⟩ : ByteArray)])), (⟨#[]⟩ : ByteArray)⟩ : STy)) (by simp only [typP, SB, hc1] <;> rfl) hR hts1 hb0 rfl
 ·skip
  refine .skip (.thenN (.seq (.region (.move rfl rfl ?_))))
  refine At.callP en66 rfl rfl (word_any ts v 3 _ hB hSge hts hb0 (by decide)) (fun e wp2 hR' => ?_)
  rcases hR'.cases.symm with ⟨ba, bc, hq2, rfl, hF2, hbb⟩ | ⟨x2, us2, val2, vr2, hq2, rfl, hF2, hts2, hbo2, ho2⟩
  ·exact .inr ⟨_, rfl, (Pk.then (Pk.body (RetP.bad (by simp only [typP, SB, hc1, hq2] <;> rfl) (Fr.then hR hF2 (fun k hk => .inl hk)) hbb)))⟩
  refine .inl ⟨_, rfl, ?_⟩
  replace hb1 := Fr.oldB hF2 hb1 (n_b0_b1.symm)
  replace hb2 := Fr.oldB hF2 hb2 (n_b0_b2.symm)
  replace hb0 := hbo2
  have hsz2 := hR.size
  replace hR := Fr.then hR hF2 (fun k hk => .inl hk)
  replace hB := Fr.below hR hB0 hB0.size hSge
  obtain rfl := ho2
  refine .fieldC rfl ft47_1 ag9 (((tk_ok x2)).c1) rfl (.build (C := #[.int .i64 4, .string (bs x2.t), zI, zN, zN, zI]) sd33 ze33 rfl (Bld.cons fo33_0 rfl (by first | decide | exact Nat.le_of_ble_eq_true rfl) (Bld.cons fo33_1 rfl (by first | decide | exact Nat.le_of_ble_eq_true rfl) (Bld.nil _))) rfl ?_)
  refine At.storeAll rfl rfl hb1 sz33 rfl (by first | (simp [Value.oneCell', ((SlOk.nil)).one]; done) | (simp only [List.all_toArray, List.all_cons, List.all_nil, ((SlOk.nil)).one, Bool.and_true, Bool.true_and]; rfl)) (fun w5 S2 => ?_)
  replace hb0 := S2.other hb0 n_b0_b1
  replace hb2 := S2.other hb2 n_b1_b2.symm
  replace hb1 : w5.heap[b1]? = some (.cells #[.int .i64 4, .string (bs x2.t), zI, zN, zN, zI] 33) := S2.new
  replace hR := hR.setF S2 (.inr gb1)
  replace hB := Fr.below hR hB0 hB0.size hSge
  refine .ops0 (.thenN (.retc (.doneR (ResV.cell rfl (Ld.own (C := #[.int .i64 4, .string (bs x2.t), zI, zN, zN, zI]) ag33 sz33 hb1) ResV.nil) ?_)))
  exact RetP.ok (x := (⟨4, (bs x2.t)⟩ : STy)) (by simp only [typP, SB, hc1, hq2] <;> rfl) hR hts2 hb0 rfl
theorem list_any {σ : Type} {wB : World} {b0 : Nat} {en dp : Int} (ts : List Tk) (v : Value) (op bt nd : ByteArray) (one : σ → List Tk → PR σ) (Inv : σ → Nat → World → Prop) (s0 : σ) (S : Nat → Prop) (c : FuncId) (cap : List Value) (w : World) (hB0 : Below wB.heap.size wB w) (hSge : ∀ k, S k → wB.heap.size ≤ k) (hts : RowsAt wB v 4 (ts.map Tk.cs)) (hb0 : w.heap[b0]? = some (.cells #[v, .int .i64 en, .int .i64 dp] 81)) (hS0 : S b0) (hent : entB Try.prog c = true) (hI : Inv s0 ts.length w) (hsh : ∀ s us, (one s us).Sh us.length)
  (hmono : ∀ s n m w1 w2, Inv s n w1 → m ≤ n → Fr (fun k => k = b0) w1 w2 → (∃ v, w1.heap[b0]? = some (.cells #[v, .int .i64 en, .int .i64 dp] 81)) → Inv s m w2)
  (hone : ∀ s us v w1, Inv s us.length w1 → Below wB.heap.size wB w1 → RowsAt wB v 4 (us.map Tk.cs) → w1.heap[b0]? = some (.cells #[v, .int .i64 en, .int .i64 dp] 81) → Calls Try.prog c cap.toArray w1 fun e w2 => RetP S wB b0 en dp (fun s' val w3 => val = .tuple #[] ∧ ∀ m, m < us.length → Inv s' m w3) (one s us) w1 e w2) :
  Calls Try.prog 67 ([.pointer (some ⟨b0, 0, none⟩), .string op, .string bt, .string nd, .func (.func c) #[] cap.toArray] : List Value).toArray w fun e w' => RetP S wB b0 en dp (fun s' val w3 => val = .tuple #[] ∧ ∃ m, Inv s' m w3) (listP en op bt nd one s0 ts) w e w' := by
 have hJ := Fr.refl (fun k => k = b0) w; have hbI := hb0
 have hR := Fr.refl S w
 have hB := hB0
 refine At.enter (N := 36) Try.func67 rfl rfl (by simp) [(0, .pointer (some ⟨b0, 0, none⟩)), (1, .string op), (2, .string bt), (3, .string nd), (4, .func (.func c) #[] cap.toArray)] (by simp) ?_
 refine .seq (.region (.move rfl rfl (.move rfl rfl ?_)))
 refine At.buildSlice (xs := [.tmp 12]) rfl rfl el29 sz9 ze9 (by intro v hv; simp only [List.mem_cons, List.not_mem_nil, or_false] at hv; rcases hv with rfl <;> first | rfl | simp [Value.cells]) rfl (by decide) rfl (fun b1 w1 F1 => ?_)
 have n_b0_b1 : b0 ≠ b1 := Nat.ne_of_lt (F1.lt hb0)
 have gb1 := Nat.le_trans hR.size (Nat.le_of_eq F1.eq.symm)
 replace hb0 := F1.old hb0
 have hb1 : w1.heap[b1]? = some (.cells #[.string op] 9) := F1.new
 replace hR := hR.freshF F1
 replace hB := Fr.below hR hB0 hB0.size hSge
 replace hJ := hJ.freshF F1
 refine At.callP en65 rfl rfl (ptext_any ts v (.slice (some ⟨b1, 0, none⟩) 1 1) ([op]) _ hB (fun k hk => hSge k (hk ▸ hS0)) hts hb0 ((StrsAt.own (ss := [op]) hb1 rfl (by decide) : StrsAt _ (.slice (some ⟨b1, 0, none⟩) 1 1) [op])) (fun _ => show b1 ≠ b0 from n_b0_b1.symm)) (fun e wp1 hR' => ?_)
 rcases hR'.cases.symm with ⟨ba, bc, hq1, rfl, hF1, hbb⟩ | ⟨x1, us1, val1, vr1, hq1, rfl, hF1, hts1, hbo1, ho1⟩
 ·exact .inr ⟨_, rfl, (Pk.then (Pk.body (RetP.bad (by simp only [listP, SB, hq1] <;> rfl) (Fr.then hR hF1 (fun k hk => .inl (hk ▸ hS0))) hbb)))⟩
 refine .inl ⟨_, rfl, ?_⟩
 replace hb1 := Fr.oldB hF1 hb1 (n_b0_b1.symm)
 replace hb0 := hbo1
 have hsz1 := hR.size
 replace hR := Fr.then hR hF1 (fun k hk => .inl (hk ▸ hS0))
 replace hB := Fr.below hR hB0 hB0.size hSge
 replace hJ := Fr.then hJ hF1 (fun k hk => .inl hk)
 obtain rfl := ho1
 refine .ops0 (.thenN (.seq (.seq (.region (.assign rfl rfl (.ops0 (.thenN (.block ?_))))))))
 refine At.loop (Nat × List Tk × Value × σ × Nat) (fun (k, us, vr, s, f) => [(0, .pointer (some ⟨b0, 0, none⟩)), (2, .string bt), (3, .string nd), (4, .func (.func c) #[] cap.toArray), (10, .int .i64 (k : Int))]) (fun (k, us, vr, s, f) w2 => Fr S w w2 ∧ w2.heap[b0]? = some (.cells #[vr, .int .i64 en, .int .i64 dp] 81) ∧ Inv s us.length w2 ∧ (k + us.length ≤ ts.length) ∧ (RowsAt wB vr 4 (us.map Tk.cs)) ∧ (listP en op bt nd one s0 ts = listL en bt nd one f (decide (k = 0)) s us) ∧ (us.length < f) ∧ (us.length ≤ ts.length)) (fun (k, us, vr, s, f) => f) (0, us1, vr1, s0, (us1.length + 1)) (Sub.cons rfl (Sub.cons rfl (Sub.cons rfl (Sub.cons rfl (Sub.cons rfl Sub.nil))))) ⟨hR, hb0, (hmono _ _ us1.length _ _ hI (Nat.le_of_lt (PR.Sh.of (text_sh en op [] ts) hq1)) hJ ⟨_, hbI⟩), (by have := PR.Sh.of (text_sh en op [] ts) hq1; omega), (hts1), (by rw [listP]; simp only [hq1, PR.bind_ok]; rfl), (Nat.lt_succ_self _), (Nat.le_of_lt (PR.Sh.of (text_sh en op [] ts) hq1))⟩ (fun gh w2 hI => ?_)
 obtain ⟨k, us, vr, s, f⟩ := gh
 clear hR hB hb0 hb1
 obtain ⟨hR, hb0, hI, hkb, hus, hs, hfl, hnn⟩ := hI
 have hB := Fr.below hR hB0 hB0.size hSge
 show At _ _ [(0, .pointer (some ⟨b0, 0, none⟩)), (2, .string bt), (3, .string nd), (4, .func (.func c) #[] cap.toArray), (10, .int .i64 (k : Int))] _ _
 have hJ := Fr.refl (fun k => k = b0) w2; have hbI := hb0; have htl := hts.lenL
 refine .seq (.seq (.region (.move rfl rfl (.nilCheck rfl rfl (.fieldAddr rfl fo81_0 rfl (.move rfl rfl ?_))))))
 refine At.buildSlice (xs := [.tmp 18]) rfl rfl el29 sz9 ze9 (by intro v hv; simp only [List.mem_cons, List.not_mem_nil, or_false] at hv; rcases hv with rfl <;> first | rfl | simp [Value.cells]) rfl (by decide) rfl (fun b2 w3 F2 => ?_)
 have n_b0_b2 : b0 ≠ b2 := Nat.ne_of_lt (F2.lt hb0)
 have gb2 := Nat.le_trans hR.size (Nat.le_of_eq F2.eq.symm)
 replace hb0 := F2.old hb0
 have hb2 : w3.heap[b2]? = some (.cells #[.string nd] 9) := F2.new
 replace hR := hR.freshF F2
 replace hB := Fr.below hR hB0 hB0.size hSge
 replace hJ := hJ.freshF F2
 refine At.call en43 rfl rfl (is_any us vr (.slice (some ⟨b2, 0, none⟩) 1 1) ([nd]) _ ((hus).keep hB) hb0 ((StrsAt.own (ss := [nd]) hb2 rfl (by decide) : StrsAt _ (.slice (some ⟨b2, 0, none⟩) 1 1) [nd]))) (fun e w4 hR' => ?_)
 obtain ⟨rfl, hbl1⟩ := hR'
 refine ⟨_, rfl, ?_⟩
 replace hb0 := Below.old hbl1 hb0
 replace hb2 := Below.old hbl1 hb2
 replace hR := hR.callF hbl1
 replace hB := Fr.below hR hB0 hB0.size hSge
 replace hJ := hJ.callF hbl1
 refine .not rfl rfl (.ops0 (.thenN ?_))
 refine At.cond (b := (!(isK en us ([nd])))) rfl (fun hc1 => ?_) (fun hc1 => ?_)
 ·skip
  have hc1n := bnot_t hc1
  refine .skip (.thenN (.seq (.block (.seq (.seq (.region (.move rfl rfl (.gtr rfl rfl rfl (.ops0 (.thenN ?_))))))))))
  refine At.cond (b := decide (0 < (k : Int))) rfl (fun hc2 => ?_) (fun hc2 => ?_)
  ·skip
   have hc2' := of_decide_eq_true hc2
   have hc2z : decide (k = 0) = false := by simp; omega
   refine .region (.move rfl rfl (.move rfl rfl ?_))
   refine At.buildSlice (xs := [.tmp 27]) rfl rfl el29 sz9 ze9 (by intro v hv; simp only [List.mem_cons, List.not_mem_nil, or_false] at hv; rcases hv with rfl <;> first | rfl | simp [Value.cells]) rfl (by decide) rfl (fun b3 w5 F3 => ?_)
   have n_b0_b3 : b0 ≠ b3 := Nat.ne_of_lt (F3.lt hb0)
   have n_b2_b3 : b2 ≠ b3 := Nat.ne_of_lt (F3.lt hb2)
   have gb3 := Nat.le_trans hR.size (Nat.le_of_eq F3.eq.symm)
   replace hb0 := F3.old hb0
   replace hb2 := F3.old hb2
   have hb3 : w5.heap[b3]? = some (.cells #[.string bt] 9) := F3.new
   replace hR := hR.freshF F3
   replace hB := Fr.below hR hB0 hB0.size hSge
   replace hJ := hJ.freshF F3
   refine At.callP en65 rfl rfl (ptext_any us vr (.slice (some ⟨b3, 0, none⟩) 1 1) ([bt]) _ hB (fun k hk => hSge k (hk ▸ hS0)) hus hb0 ((StrsAt.own (ss := [bt]) hb3 rfl (by decide) : StrsAt _ (.slice (some ⟨b3, 0, none⟩) 1 1) [bt])) (fun _ => show b3 ≠ b0 from n_b0_b3.symm)) (fun e wp2 hR' => ?_)
   rcases hR'.cases.symm with ⟨ba, bc, hq2, rfl, hF2, hbb⟩ | ⟨x2, us2, val2, vr2, hq2, rfl, hF2, hts2, hbo2, ho2⟩
   ·exact .inr ⟨_, rfl, (Pk.then (Pk.block (Pk.then (Pk.then (Pk.block (Pk.then (Pk.body (RetP.bad (by obtain ⟨q, rfl⟩ : ∃ q, f = q + 1 := ⟨f - 1, by omega⟩; rw [hs, listL]; simp only [listP, SB, hc1n, hc2, hq1, hq2, hc2z] <;> rfl) (Fr.then hR hF2 (fun k hk => .inl (hk ▸ hS0))) hbb))))))))⟩
   refine .inl ⟨_, rfl, ?_⟩
   replace hb2 := Fr.oldB hF2 hb2 (n_b0_b2.symm)
   replace hb3 := Fr.oldB hF2 hb3 (n_b0_b3.symm)
   replace hb0 := hbo2
   have hsz2 := hR.size
   replace hR := Fr.then hR hF2 (fun k hk => .inl (hk ▸ hS0))
   replace hB := Fr.below hR hB0 hB0.size hSge
   replace hJ := Fr.then hJ hF2 (fun k hk => .inl hk)
   obtain rfl := ho2
   refine .ops0 (.thenN (.region (.move rfl rfl ?_)))
   have hI2 := hmono _ _ us2.length _ _ hI (by first | omega | (have h1 := PR.Sh.of (text_sh en op [] ts) hq1; first | omega | (have h2 := PR.Sh.of (text_sh en bt [] us) hq2; omega))) hJ ⟨_, hbI⟩
   refine At.callVP rfl hent rfl rfl (hone _ _ _ _ hI2 hB hts2 hb0) (fun e w9 hR' => ?_)
   rcases hR'.cases.symm with ⟨ba, bc, hqo, rfl, hFo, hbb⟩ | ⟨so, uso, val, vro, hqo, rfl, hFo, htso, hbo, hoo⟩
   ·exact .inr ⟨_, rfl, (Pk.block (Pk.then (Pk.then (Pk.block (Pk.then (Pk.body (RetP.bad (by obtain ⟨q, rfl⟩ : ∃ q, f = q + 1 := ⟨f - 1, by omega⟩; rw [hs, listL]; simp only [listP, SB, hc1n, hc2, hq1, hq2, hqo, hc2z] <;> rfl) (Fr.then hR hFo (fun k hk => .inl hk)) hbb)))))))⟩
   obtain ⟨rfl, hIo⟩ := hoo
   refine .inl ⟨_, rfl, ?_⟩
   replace hb0 := hbo
   replace hR := Fr.then hR hFo (fun k hk => .inl hk)
   replace hB := Fr.below hR hB0 hB0.size hSge
   refine .ops0 (.inN (.thenN (.region (.move rfl rfl (.addI rfl rfl rfl (by first | omega | (simp; done) | (have := PR.Sh.of (hsh _ _) hqo; first | omega | (have h2 := PR.Sh.of (text_sh en bt [] us) hq2; omega))) (.assign rfl rfl (.ops0 (.thenN ?_))))))))
   exact fun act_ hact_ => ⟨((k + 1), uso, vro, so, (f - 1)), hact_.sub (Sub.cons rfl (Sub.cons rfl (Sub.cons rfl (Sub.cons rfl (Sub.cons rfl Sub.nil))))), ⟨hR, hb0, (hIo _ (PR.Sh.of (hsh _ _) hqo)), (by have := PR.Sh.of (hsh _ _) hqo; have h2 := PR.Sh.of (text_sh en bt [] us) hq2; omega), (htso), (by obtain ⟨q, rfl⟩ : ∃ q, f = q + 1 := ⟨f - 1, by omega⟩; rw [hs, listL]; simp only [hc1n, hc2, hq1, hq2, hqo, hc2z, cond_true, cond_false, PR.bind_ok]; rfl), (by have := PR.Sh.of (hsh _ _) hqo; have h2 := PR.Sh.of (text_sh en bt [] us) hq2; omega), (by have := PR.Sh.of (hsh _ _) hqo; have h2 := PR.Sh.of (text_sh en bt [] us) hq2; omega)⟩, by first | omega | (dsimp only; omega)⟩
  ·skip
   have hc2' := of_decide_eq_false hc2
   have hc2z : decide (k = 0) = true := by simp; omega
   refine .skip (.thenN (.region (.move rfl rfl ?_)))
   have hI2 := hmono _ _ us.length _ _ hI (by first | omega | (have h1 := PR.Sh.of (text_sh en op [] ts) hq1; first | omega | (have h2 := PR.Sh.of (text_sh en bt [] us) hq2; omega))) hJ ⟨_, hbI⟩
   refine At.callVP rfl hent rfl rfl (hone _ _ _ _ hI2 hB hus hb0) (fun e w9 hR' => ?_)
   rcases hR'.cases.symm with ⟨ba, bc, hqo, rfl, hFo, hbb⟩ | ⟨so, uso, val, vro, hqo, rfl, hFo, htso, hbo, hoo⟩
   ·exact .inr ⟨_, rfl, (Pk.block (Pk.then (Pk.then (Pk.block (Pk.then (Pk.body (RetP.bad (by obtain ⟨q, rfl⟩ : ∃ q, f = q + 1 := ⟨f - 1, by omega⟩; rw [hs, listL]; simp only [listP, SB, hc1n, hc2, hq1, hqo, hc2z] <;> rfl) (Fr.then hR hFo (fun k hk => .inl hk)) hbb)))))))⟩
   obtain ⟨rfl, hIo⟩ := hoo
   refine .inl ⟨_, rfl, ?_⟩
   replace hb0 := hbo
   replace hR := Fr.then hR hFo (fun k hk => .inl hk)
   replace hB := Fr.below hR hB0 hB0.size hSge
   refine .ops0 (.inN (.thenN (.region (.move rfl rfl (.addI rfl rfl rfl (by first | omega | (simp; done) | (have := PR.Sh.of (hsh _ _) hqo; first | omega | (have h2 := PR.Sh.of (text_sh en bt [] us) hq2; omega))) (.assign rfl rfl (.ops0 (.thenN ?_))))))))
   exact fun act_ hact_ => ⟨((k + 1), uso, vro, so, (f - 1)), hact_.sub (Sub.cons rfl (Sub.cons rfl (Sub.cons rfl (Sub.cons rfl (Sub.cons rfl Sub.nil))))), ⟨hR, hb0, (hIo _ (PR.Sh.of (hsh _ _) hqo)), (by have := PR.Sh.of (hsh _ _) hqo; omega), (htso), (by obtain ⟨q, rfl⟩ : ∃ q, f = q + 1 := ⟨f - 1, by omega⟩; rw [hs, listL]; simp only [hc1n, hc2, hq1, hqo, hc2z, cond_true, cond_false, PR.bind_ok]; rfl), (by have := PR.Sh.of (hsh _ _) hqo; omega), (by have := PR.Sh.of (hsh _ _) hqo; omega)⟩, by first | omega | (dsimp only; omega)⟩
 ·skip
  have hc1n := bnot_f hc1
  refine .exit (.thenE (.thenE (.inE (.thenN (.region (.move rfl rfl (.move rfl rfl ?_)))))))
  refine At.buildSlice (xs := [.tmp 33]) rfl rfl el29 sz9 ze9 (by intro v hv; simp only [List.mem_cons, List.not_mem_nil, or_false] at hv; rcases hv with rfl <;> first | rfl | simp [Value.cells]) rfl (by decide) rfl (fun b4 w6 F4 => ?_)
  have n_b0_b4 : b0 ≠ b4 := Nat.ne_of_lt (F4.lt hb0)
  have n_b2_b4 : b2 ≠ b4 := Nat.ne_of_lt (F4.lt hb2)
  have gb4 := Nat.le_trans hR.size (Nat.le_of_eq F4.eq.symm)
  replace hb0 := F4.old hb0
  replace hb2 := F4.old hb2
  have hb4 : w6.heap[b4]? = some (.cells #[.string nd] 9) := F4.new
  replace hR := hR.freshF F4
  replace hB := Fr.below hR hB0 hB0.size hSge
  replace hJ := hJ.freshF F4
  refine At.callP en65 rfl rfl (ptext_any us vr (.slice (some ⟨b4, 0, none⟩) 1 1) ([nd]) _ hB (fun k hk => hSge k (hk ▸ hS0)) hus hb0 ((StrsAt.own (ss := [nd]) hb4 rfl (by decide) : StrsAt _ (.slice (some ⟨b4, 0, none⟩) 1 1) [nd])) (fun _ => show b4 ≠ b0 from n_b0_b4.symm)) (fun e wp3 hR' => ?_)
  rcases hR'.cases.symm with ⟨ba, bc, hq3, rfl, hF3, hbb⟩ | ⟨x3, us3, val3, vr3, hq3, rfl, hF3, hts3, hbo3, ho3⟩
  ·exact .inr ⟨_, rfl, (Pk.body (RetP.bad (by obtain ⟨q, rfl⟩ : ∃ q, f = q + 1 := ⟨f - 1, by omega⟩; rw [hs, listL]; simp only [listP, SB, hc1n, hq1, hq3] <;> rfl) (Fr.then hR hF3 (fun k hk => .inl (hk ▸ hS0))) hbb))⟩
  refine .inl ⟨_, rfl, ?_⟩
  replace hb2 := Fr.oldB hF3 hb2 (n_b0_b2.symm)
  replace hb4 := Fr.oldB hF3 hb4 (n_b0_b4.symm)
  replace hb0 := hbo3
  have hsz3 := hR.size
  replace hR := Fr.then hR hF3 (fun k hk => .inl (hk ▸ hS0))
  replace hB := Fr.below hR hB0 hB0.size hSge
  replace hJ := Fr.then hJ hF3 (fun k hk => .inl hk)
  obtain rfl := ho3
  refine .ops0 (.doneN (ResV.nil) ?_)
  exact RetP.ok (by obtain ⟨q, rfl⟩ : ∃ q, f = q + 1 := ⟨f - 1, by omega⟩; rw [hs, listL]; simp only [listP, SB, hc1n, hq1, hq3] <;> rfl) hR hts3 hb0 ⟨rfl, _, hmono _ _ _ _ _ hI (Nat.le_refl _) hJ ⟨_, hbI⟩⟩
end Go.Proofs.Ytkjmjnddanhapaa
