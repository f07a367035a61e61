/-
 The walks of declarations. Written by a program of ours.
-/
import Derived.Test.YtkjmjnddanhapaaN4
set_option linter.unusedVariables false
set_option linter.unusedSimpArgs false
namespace Go.Proofs.Ytkjmjnddanhapaa
open Go.RowKit
theorem ag28 : aggB Try.prog 28 = some false := by kernel_rfl
theorem ag53 : aggB Try.prog 53 = some false := by kernel_rfl
theorem ag55 : aggB Try.prog 55 = some true := by kernel_rfl
theorem ag57 : aggB Try.prog 57 = some true := by kernel_rfl
theorem ag64 : aggB Try.prog 64 = some false := by kernel_rfl
theorem ag66 : aggB Try.prog 66 = some true := by kernel_rfl
theorem ag68 : aggB Try.prog 68 = some true := by kernel_rfl
theorem ag77 : aggB Try.prog 77 = some false := by kernel_rfl
theorem by33 : bytesB Try.prog 33 = some 88 := by kernel_rfl
theorem by57 : bytesB Try.prog 57 = some 192 := by kernel_rfl
theorem by68 : bytesB Try.prog 68 = some 40 := by kernel_rfl
theorem el28 : elemB Try.prog 28 = some 33 := by kernel_rfl
theorem el53 : elemB Try.prog 53 = some 57 := by kernel_rfl
theorem el64 : elemB Try.prog 64 = some 68 := by kernel_rfl
theorem en67 : entB Try.prog 67 = true := by kernel_rfl
theorem en68 : entB Try.prog 68 = true := by kernel_rfl
theorem en69 : entB Try.prog 69 = true := by kernel_rfl
theorem en70 : entB Try.prog 70 = true := by kernel_rfl
theorem fo55_0 : fieldB Try.prog 55 0 = some (0, 1) := by kernel_rfl
theorem fo55_1 : fieldB Try.prog 55 1 = some (1, 1) := by kernel_rfl
theorem fo57_0 : fieldB Try.prog 57 0 = some (0, 1) := by kernel_rfl
theorem fo57_1 : fieldB Try.prog 57 1 = some (1, 6) := by kernel_rfl
theorem fo57_2 : fieldB Try.prog 57 2 = some (7, 6) := by kernel_rfl
theorem fo66_0 : fieldB Try.prog 66 0 = some (0, 1) := by kernel_rfl
theorem fo66_1 : fieldB Try.prog 66 1 = some (1, 1) := by kernel_rfl
theorem fo68_0 : fieldB Try.prog 68 0 = some (0, 1) := by kernel_rfl
theorem fo68_1 : fieldB Try.prog 68 1 = some (1, 1) := by kernel_rfl
theorem mixed : Try.prog.follows .mixedOrders = true := by kernel_rfl
theorem sd57 : sizedB Try.prog 57 = true := by kernel_rfl
theorem sd68 : sizedB Try.prog 68 = true := by kernel_rfl
theorem sz28 : sizeB Try.prog 28 = some 1 := by kernel_rfl
theorem sz53 : sizeB Try.prog 53 = some 1 := by kernel_rfl
theorem sz55 : sizeB Try.prog 55 = some 2 := by kernel_rfl
theorem sz57 : sizeB Try.prog 57 = some 13 := by kernel_rfl
theorem sz64 : sizeB Try.prog 64 = some 1 := by kernel_rfl
theorem sz66 : sizeB Try.prog 66 = some 2 := by kernel_rfl
theorem sz68 : sizeB Try.prog 68 = some 2 := by kernel_rfl
theorem ze55 : zeroB Try.prog 55 = some (.agg #[.string (⟨#[]⟩ : ByteArray), (.slice none 0 0)]) := by kernel_rfl
theorem ze57 : zeroB Try.prog 57 = some (.agg #[.string (⟨#[]⟩ : ByteArray), .int .i64 0, .string (⟨#[]⟩ : ByteArray), .int .i64 0, (.slice none 0 0), (.slice none 0 0), .int .i64 0, .int .i64 0, .string (⟨#[]⟩ : ByteArray), .int .i64 0, (.slice none 0 0), (.slice none 0 0), .int .i64 0]) := by kernel_rfl
theorem ze66 : zeroB Try.prog 66 = some (.agg #[.string (⟨#[]⟩ : ByteArray), (.slice none 0 0)]) := by kernel_rfl
theorem ze68 : zeroB Try.prog 68 = some (.agg #[.string (⟨#[]⟩ : ByteArray), (.slice none 0 0)]) := by kernel_rfl
theorem effect1_any {wB : World} {b0 : Nat} {en dp : Int} (ts : List Tk) (v : Value) (M : List (Option Nat)) (bx bp : Nat) (vo : Value) (es : List Op) (nm : ByteArray) (w : World) (hB0 : Below wB.heap.size wB w) (hSge : ∀ k, (k = b0 ∨ k = bx ∨ some k = vo.ownBlock) → wB.heap.size ≤ k) (hts : RowsAt wB v 4 (ts.map Tk.cs)) (hb0 : w.heap[b0]? = some (.cells #[v, .int .i64 en, .int .i64 dp] 81)) (hbx : w.heap[bx]? = some (.cells #[.string nm, vo] 55)) (hbp : w.heap[bp]? = some (.cells #[.pointer (some ⟨b0, 0, none⟩)] 77)) (hO : OwnR 57 13 Op.cs w vo es) (hX : Xs kOp (vo.ownBlock :: some b0 :: some bx :: M) w es) (hMl : MLt w.heap.size M) (hnn : es.length + ts.length ≤ 100000000) (hnx : some bx ≠ vo.ownBlock) :
  Calls Try.prog 68 ([.pointer (some ⟨bp, 0, none⟩), .pointer (some ⟨bx, 0, none⟩)] : List Value).toArray w fun e w' => RetP (fun k => k = b0 ∨ k = bx ∨ some k = vo.ownBlock) wB b0 en dp (GrowOk kOp 57 13 Op.cs rOp M (fun v => #[.string nm, v]) bx 55 bp b0 77 vo es w) (op1P en ts) w e w' := by
 have n_b0_bp : b0 ≠ bp := ne_ty hb0 hbp rfl; have n_b0_bx : b0 ≠ bx := ne_ty hb0 hbx rfl; have n_bp_bx : bp ≠ bx := ne_ty hbp hbx rfl; have geO : ∀ g, Value.ownBlock vo = some g → vo.ownBlock = some g ∨ w.heap.size ≤ g := fun g h => .inl h; have htl := hts.lenL
 have hR := Fr.refl (fun k => k = b0 ∨ k = bx ∨ some k = vo.ownBlock) w
 have hB := hB0
 refine At.enter (N := 25) Try.func68 rfl rfl (by simp) [(0, .pointer (some ⟨bp, 0, none⟩)), (1, .pointer (some ⟨bx, 0, none⟩))] (by simp) ?_
 refine .seq (.region (.load rfl (Ld.ownCell ag77 hbp rfl) rfl ?_))
 refine At.callP en66 rfl rfl (word_any ts v 2 _ hB (fun k hk => hSge k (.inl hk)) hts hb0 (by decide)) (fun e wp1 hR' => ?_)
 rcases hR'.cases.symm with ⟨ba, bc, hq1, rfl, hF1, hbb⟩ | ⟨x1, us1, val1, vr1, hq1, rfl, hF1, hts1, hbo1, ho1⟩
 ·exact .inr ⟨_, rfl, (Pk.then (Pk.body (RetP.bad (by simp only [op1P, SB, hq1] <;> rfl) (Fr.then hR hF1 (fun k hk => .inl (.inl hk))) hbb)))⟩
 refine .inl ⟨_, rfl, ?_⟩
 replace hbp := Fr.oldB hF1 hbp (n_b0_bp.symm)
 replace hbx := Fr.oldB hF1 hbx (n_b0_bx.symm)
 replace hO := OwnR.frB hO hF1 hb0 rfl
 replace hX := Xs.frS hX hF1 (by rintro k rfl; simp)
 replace hb0 := hbo1
 have hsz1 := hR.size
 replace hR := Fr.then hR hF1 (fun k hk => .inl (.inl hk))
 replace hB := Fr.below hR hB0 hB0.size hSge
 obtain rfl := ho1
 refine .fieldC rfl ft47_1 ag9 (((tk_ok x1)).c1) rfl (.build (C := #[.string (bs x1.t), zI, zS, zI, zN, zN, zI, zI, zS, zI, zN, zN, zI]) sd57 ze57 rfl (Bld.cons fo57_0 rfl (by first | decide | exact Nat.le_of_ble_eq_true rfl) (Bld.nil _)) rfl ?_)
 refine At.alloc ze57 rfl (fun b1 w1 F1 => ?_)
 have q_hO_b1 : some b1 ≠ Value.ownBlock vo := Own.neFresh hO F1
 have n_b0_b1 : b0 ≠ b1 := Nat.ne_of_lt (F1.lt hb0)
 have n_bp_b1 : bp ≠ b1 := Nat.ne_of_lt (F1.lt hbp)
 have n_bx_b1 : bx ≠ b1 := Nat.ne_of_lt (F1.lt hbx)
 have gb1 := Nat.le_trans hR.size (Nat.le_of_eq F1.eq.symm)
 replace hb0 := F1.old hb0
 replace hbp := F1.old hbp
 replace hbx := F1.old hbx
 replace hO := hO.fresh F1
 replace hX := Xs.fresh hX F1
 have hb1 : w1.heap[b1]? = some (.cells #[zS, zI, zS, zI, zN, zN, zI, zI, zS, zI, zN, zN, zI] 57) := F1.new
 replace hR := hR.freshF F1
 replace hB := Fr.below hR hB0 hB0.size hSge
 refine At.storeAll rfl rfl hb1 sz57 rfl (by first | (simp [Value.oneCell', ((SlOk.nil)).one]; done) | (simp only [List.all_toArray, List.all_cons, List.all_nil, ((SlOk.nil)).one, Bool.and_true, Bool.true_and]; rfl)) (fun w2 S1 => ?_)
 replace hb0 := S1.other hb0 n_b0_b1
 replace hbp := S1.other hbp n_bp_b1
 replace hbx := S1.other hbx n_bx_b1
 replace hO := hO.set S1 q_hO_b1
 replace hX := Xs.set hX S1 (by simp)
 replace hb1 : w2.heap[b1]? = some (.cells #[.string (bs x1.t), zI, zS, zI, zN, zN, zI, zI, zS, zI, zN, zN, zI] 57) := S1.new
 replace hR := hR.setF S1 (.inr gb1)
 replace hB := Fr.below hR hB0 hB0.size hSge
 refine .ops0 (.thenN (.seq (.region (.load rfl (Ld.ownCell ag77 hbp rfl) rfl ?_))))
 refine At.buildSlice (xs := [.const (.string (⟨#[58]⟩ : ByteArray))]) rfl rfl el29 sz9 ze9 (by intro v hv; simp only [List.mem_cons, List.not_mem_nil, or_false] at hv; rcases hv with rfl <;> first | rfl | simp [Value.cells]) rfl (by decide) rfl (fun b2 w3 F2 => ?_)
 have n_b0_b2 : b0 ≠ b2 := Nat.ne_of_lt (F2.lt hb0)
 have n_bp_b2 : bp ≠ b2 := Nat.ne_of_lt (F2.lt hbp)
 have n_bx_b2 : bx ≠ b2 := Nat.ne_of_lt (F2.lt hbx)
 have n_b1_b2 : b1 ≠ b2 := Nat.ne_of_lt (F2.lt hb1)
 have gb2 := Nat.le_trans hR.size (Nat.le_of_eq F2.eq.symm)
 replace hb0 := F2.old hb0
 replace hbp := F2.old hbp
 replace hbx := F2.old hbx
 replace hb1 := F2.old hb1
 replace hO := hO.fresh F2
 replace hX := Xs.fresh hX F2
 have hb2 : w3.heap[b2]? = some (.cells #[.string (⟨#[58]⟩ : ByteArray)] 9) := F2.new
 replace hR := hR.freshF F2
 replace hB := Fr.below hR hB0 hB0.size hSge
 refine At.callP en65 rfl rfl (ptext_any us1 vr1 (.slice (some ⟨b2, 0, none⟩) 1 1) ([(⟨#[58]⟩ : ByteArray)]) _ hB (fun k hk => hSge k (.inl hk)) hts1 hb0 ((StrsAt.own (ss := [(⟨#[58]⟩ : ByteArray)]) hb2 rfl (by decide) : StrsAt _ (.slice (some ⟨b2, 0, none⟩) 1 1) [(⟨#[58]⟩ : ByteArray)])) (fun _ => show b2 ≠ b0 from n_b0_b2.symm)) (fun e wp2 hR' => ?_)
 rcases hR'.cases.symm with ⟨ba, bc, hq2, rfl, hF2, hbb⟩ | ⟨x2, us2, val2, vr2, hq2, rfl, hF2, hts2, hbo2, ho2⟩
 ·exact .inr ⟨_, rfl, (Pk.then (Pk.body (RetP.bad (by simp only [op1P, SB, hq1, hq2] <;> rfl) (Fr.then hR hF2 (fun k hk => .inl (.inl hk))) hbb)))⟩
 refine .inl ⟨_, rfl, ?_⟩
 replace hbp := Fr.oldB hF2 hbp (n_b0_bp.symm)
 replace hbx := Fr.oldB hF2 hbx (n_b0_bx.symm)
 replace hb1 := Fr.oldB hF2 hb1 (n_b0_b1.symm)
 replace hb2 := Fr.oldB hF2 hb2 (n_b0_b2.symm)
 replace hO := OwnR.frB hO hF2 hb0 rfl
 replace hX := Xs.frS hX hF2 (by rintro k rfl; simp)
 replace hb0 := hbo2
 have hsz2 := hR.size
 replace hR := Fr.then hR hF2 (fun k hk => .inl (.inl hk))
 replace hB := Fr.below hR hB0 hB0.size hSge
 obtain rfl := ho2
 refine .ops0 (.thenN (.seq (.region (.load rfl (Ld.ownCell ag77 hbp rfl) rfl ?_))))
 refine At.callP en69 rfl rfl (typ_any us2 vr2  _ hB (fun k hk => hSge k (.inl hk)) hts2 hb0) (fun e wp3 hR' => ?_)
 rcases hR'.cases.symm with ⟨ba, bc, hq3, rfl, hF3, hbb⟩ | ⟨x3, us3, val3, vr3, hq3, rfl, hF3, hts3, hbo3, ho3⟩
 ·exact .inr ⟨_, rfl, (Pk.then (Pk.body (RetP.bad (by simp only [op1P, SB, hq1, hq2, hq3] <;> rfl) (Fr.then hR hF3 (fun k hk => .inl (.inl hk))) hbb)))⟩
 refine .inl ⟨_, rfl, ?_⟩
 replace hbp := Fr.oldB hF3 hbp (n_b0_bp.symm)
 replace hbx := Fr.oldB hF3 hbx (n_b0_bx.symm)
 replace hb1 := Fr.oldB hF3 hb1 (n_b0_b1.symm)
 replace hb2 := Fr.oldB hF3 hb2 (n_b0_b2.symm)
 replace hO := OwnR.frB hO hF3 hb0 rfl
 replace hX := Xs.frS hX hF3 (by rintro k rfl; simp)
 replace hb0 := hbo3
 have hsz3 := hR.size
 replace hR := Fr.then hR hF3 (fun k hk => .inl (.inl hk))
 replace hB := Fr.below hR hB0 hB0.size hSge
 obtain rfl := ho3
 refine .fieldAddr rfl fo57_1 rfl ?_
 refine At.storePart (cs := #[.int .i64 x3.k, .string x3.nm, zI, zN, zN, zI]) rfl rfl hb1 sz33 (by first | decide | exact Nat.le_of_ble_eq_true rfl) (by first | (simp [Value.oneCell', ((SlOk.nil)).one]; done) | (simp only [List.all_toArray, List.all_cons, List.all_nil, ((SlOk.nil)).one, Bool.and_true, Bool.true_and]; rfl)) (fun w4 S2 => ?_)
 replace hb0 := S2.other hb0 n_b0_b1
 replace hbp := S2.other hbp n_bp_b1
 replace hbx := S2.other hbx n_bx_b1
 replace hb2 := S2.other hb2 n_b1_b2.symm
 replace hO := hO.set S2 q_hO_b1
 replace hX := Xs.set hX S2 (by simp)
 replace hb1 : w4.heap[b1]? = some (.cells #[.string (bs x1.t), .int .i64 x3.k, .string x3.nm, zI, zN, zN, zI, zI, zS, zI, zN, zN, zI] 57) := S2.new
 replace hR := hR.setF S2 (.inr gb1)
 replace hB := Fr.below hR hB0 hB0.size hSge
 refine .ops0 (.thenN (.seq (.region (.load rfl (Ld.ownCell ag77 hbp rfl) rfl ?_))))
 refine At.buildSlice (xs := [.const (.string (⟨#[45, 62]⟩ : ByteArray))]) rfl rfl el29 sz9 ze9 (by intro v hv; simp only [List.mem_cons, List.not_mem_nil, or_false] at hv; rcases hv with rfl <;> first | rfl | simp [Value.cells]) rfl (by decide) rfl (fun b3 w5 F3 => ?_)
 have n_b0_b3 : b0 ≠ b3 := Nat.ne_of_lt (F3.lt hb0)
 have n_bp_b3 : bp ≠ b3 := Nat.ne_of_lt (F3.lt hbp)
 have n_bx_b3 : bx ≠ b3 := Nat.ne_of_lt (F3.lt hbx)
 have n_b1_b3 : b1 ≠ b3 := Nat.ne_of_lt (F3.lt hb1)
 have n_b2_b3 : b2 ≠ b3 := Nat.ne_of_lt (F3.lt hb2)
 have gb3 := Nat.le_trans hR.size (Nat.le_of_eq F3.eq.symm)
 replace hb0 := F3.old hb0
 replace hbp := F3.old hbp
 replace hbx := F3.old hbx
 replace hb1 := F3.old hb1
 replace hb2 := F3.old hb2
 replace hO := hO.fresh F3
 replace hX := Xs.fresh hX F3
 have hb3 : w5.heap[b3]? = some (.cells #[.string (⟨#[45, 62]⟩ : ByteArray)] 9) := F3.new
 replace hR := hR.freshF F3
 replace hB := Fr.below hR hB0 hB0.size hSge
 refine At.callP en65 rfl rfl (ptext_any us3 vr3 (.slice (some ⟨b3, 0, none⟩) 1 1) ([(⟨#[45, 62]⟩ : ByteArray)]) _ hB (fun k hk => hSge k (.inl hk)) hts3 hb0 ((StrsAt.own (ss := [(⟨#[45, 62]⟩ : ByteArray)]) hb3 rfl (by decide) : StrsAt _ (.slice (some ⟨b3, 0, none⟩) 1 1) [(⟨#[45, 62]⟩ : ByteArray)])) (fun _ => show b3 ≠ b0 from n_b0_b3.symm)) (fun e wp4 hR' => ?_)
 rcases hR'.cases.symm with ⟨ba, bc, hq4, rfl, hF4, hbb⟩ | ⟨x4, us4, val4, vr4, hq4, rfl, hF4, hts4, hbo4, ho4⟩
 ·exact .inr ⟨_, rfl, (Pk.then (Pk.body (RetP.bad (by simp only [op1P, SB, hq1, hq2, hq3, hq4] <;> rfl) (Fr.then hR hF4 (fun k hk => .inl (.inl hk))) hbb)))⟩
 refine .inl ⟨_, rfl, ?_⟩
 replace hbp := Fr.oldB hF4 hbp (n_b0_bp.symm)
 replace hbx := Fr.oldB hF4 hbx (n_b0_bx.symm)
 replace hb1 := Fr.oldB hF4 hb1 (n_b0_b1.symm)
 replace hb2 := Fr.oldB hF4 hb2 (n_b0_b2.symm)
 replace hb3 := Fr.oldB hF4 hb3 (n_b0_b3.symm)
 replace hO := OwnR.frB hO hF4 hb0 rfl
 replace hX := Xs.frS hX hF4 (by rintro k rfl; simp)
 replace hb0 := hbo4
 have hsz4 := hR.size
 replace hR := Fr.then hR hF4 (fun k hk => .inl (.inl hk))
 replace hB := Fr.below hR hB0 hB0.size hSge
 obtain rfl := ho4
 refine .ops0 (.thenN (.seq (.region (.load rfl (Ld.ownCell ag77 hbp rfl) rfl ?_))))
 refine At.callP en69 rfl rfl (typ_any us4 vr4  _ hB (fun k hk => hSge k (.inl hk)) hts4 hb0) (fun e wp5 hR' => ?_)
 rcases hR'.cases.symm with ⟨ba, bc, hq5, rfl, hF5, hbb⟩ | ⟨x5, us5, val5, vr5, hq5, rfl, hF5, hts5, hbo5, ho5⟩
 ·exact .inr ⟨_, rfl, (Pk.then (Pk.body (RetP.bad (by simp only [op1P, SB, hq1, hq2, hq3, hq4, hq5] <;> rfl) (Fr.then hR hF5 (fun k hk => .inl (.inl hk))) hbb)))⟩
 refine .inl ⟨_, rfl, ?_⟩
 replace hbp := Fr.oldB hF5 hbp (n_b0_bp.symm)
 replace hbx := Fr.oldB hF5 hbx (n_b0_bx.symm)
 replace hb1 := Fr.oldB hF5 hb1 (n_b0_b1.symm)
 replace hb2 := Fr.oldB hF5 hb2 (n_b0_b2.symm)
 replace hb3 := Fr.oldB hF5 hb3 (n_b0_b3.symm)
 replace hO := OwnR.frB hO hF5 hb0 rfl
 replace hX := Xs.frS hX hF5 (by rintro k rfl; simp)
 replace hb0 := hbo5
 have hsz5 := hR.size
 replace hR := Fr.then hR hF5 (fun k hk => .inl (.inl hk))
 replace hB := Fr.below hR hB0 hB0.size hSge
 obtain rfl := ho5
 refine .fieldAddr rfl fo57_2 rfl ?_
 refine At.storePart (cs := #[.int .i64 x5.k, .string x5.nm, zI, zN, zN, zI]) rfl rfl hb1 sz33 (by first | decide | exact Nat.le_of_ble_eq_true rfl) (by first | (simp [Value.oneCell', ((SlOk.nil)).one]; done) | (simp only [List.all_toArray, List.all_cons, List.all_nil, ((SlOk.nil)).one, Bool.and_true, Bool.true_and]; rfl)) (fun w6 S3 => ?_)
 replace hb0 := S3.other hb0 n_b0_b1
 replace hbp := S3.other hbp n_bp_b1
 replace hbx := S3.other hbx n_bx_b1
 replace hb2 := S3.other hb2 n_b1_b2.symm
 replace hb3 := S3.other hb3 n_b1_b3.symm
 replace hO := hO.set S3 q_hO_b1
 replace hX := Xs.set hX S3 (by simp)
 replace hb1 : w6.heap[b1]? = some (.cells #[.string (bs x1.t), .int .i64 x3.k, .string x3.nm, zI, zN, zN, zI, .int .i64 x5.k, .string x5.nm, zI, zN, zN, zI] 57) := S3.new
 replace hR := hR.setF S3 (.inr gb1)
 replace hB := Fr.below hR hB0 hB0.size hSge
 refine .ops0 (.thenN (.region (.fieldAddr rfl fo55_1 rfl (.load rfl (Ld.ownCell ag53 hbx rfl) rfl (.load rfl (Ld.own (C := #[.string (bs x1.t), .int .i64 x3.k, .string x3.nm, zI, zN, zN, zI, .int .i64 x5.k, .string x5.nm, zI, zN, zN, zI]) ag57 sz57 hb1) rfl ?_)))))
 refine At.buildSlice (xs := [.tmp 21]) rfl rfl el53 sz57 ze57 (by intro v hv; simp only [List.mem_cons, List.not_mem_nil, or_false] at hv; rcases hv with rfl <;> first | rfl | simp [Value.cells, ((ownOp_ok (bs x1.t) x3.k x3.nm x5.k x5.nm)).size]) rfl (by decide) rfl (fun b4 w7 F4 => ?_)
 have q_hO_b4 : some b4 ≠ Value.ownBlock vo := Own.neFresh hO F4
 have n_b0_b4 : b0 ≠ b4 := Nat.ne_of_lt (F4.lt hb0)
 have n_bp_b4 : bp ≠ b4 := Nat.ne_of_lt (F4.lt hbp)
 have n_bx_b4 : bx ≠ b4 := Nat.ne_of_lt (F4.lt hbx)
 have n_b1_b4 : b1 ≠ b4 := Nat.ne_of_lt (F4.lt hb1)
 have n_b2_b4 : b2 ≠ b4 := Nat.ne_of_lt (F4.lt hb2)
 have n_b3_b4 : b3 ≠ b4 := Nat.ne_of_lt (F4.lt hb3)
 have gb4 := Nat.le_trans hR.size (Nat.le_of_eq F4.eq.symm)
 replace hb0 := F4.old hb0
 replace hbp := F4.old hbp
 replace hbx := F4.old hbx
 replace hb1 := F4.old hb1
 replace hb2 := F4.old hb2
 replace hb3 := F4.old hb3
 replace hO := hO.fresh F4
 replace hX := Xs.fresh hX F4
 have hb4 : w7.heap[b4]? = some (.cells (([(ownOp (bs x1.t) x3.k x3.nm x5.k x5.nm)].map Op.cs).flatMap (·.toList)).toArray 57) := F4.new
 replace hR := hR.freshF F4
 replace hB := Fr.below hR hB0 hB0.size hSge
 refine At.appendR (f := Op.cs) rfl rfl el53 el53 sz57 by57 ze57 rfl hO (rows_own (f := Op.cs) (m := 1) hb4 (fun u hu => ((mem1 (Q := fun u => OpOk u) (ownOp_ok (bs x1.t) x3.k x3.nm x5.k x5.nm)) u hu).size) rfl (by decide)) (by decide) (fun u hu => (((mem1 (Q := fun u => OpOk u) (ownOp_ok (bs x1.t) x3.k x3.nm x5.k x5.nm))) u hu).one) (by first | omega | (simp; omega)) (by first | omega | (simp; omega)) rfl (fun va1 w8 hO1 hA1 => ?_)
 replace hO1 : OwnR 57 13 Op.cs w8 va1 (es ++ [(ownOp (bs x1.t) x3.k x3.nm x5.k x5.nm)]) := hO1
 replace hb0 := hA1.old hb0 (hO.neT hb0 rfl)
 replace hbp := hA1.old hbp (hO.neT hbp rfl)
 replace hbx := hA1.old hbx (hO.neT hbx rfl)
 have q_hO1_b1 : some b1 ≠ Value.ownBlock va1 := Moved.ne hA1.blk (Array.getElem?_eq_some_iff.1 hb1).1 q_hO_b1
 replace hb1 := hA1.old hb1 q_hO_b1
 replace hb2 := hA1.old hb2 (hO.neT hb2 rfl)
 replace hb3 := hA1.old hb3 (hO.neT hb3 rfl)
 clear hb4
 replace hX := Xs.app hX hA1 (.inr (by simp))
 have ghO1 := AppR.movedTo hA1 hR.size geO
 replace hR := hR.appF hA1 (fun g hg => (geO g hg).imp (fun h => .inr (.inr h.symm)) id)
 replace hB := Fr.below hR hB0 hB0.size hSge
 refine .fieldAddr rfl fo55_1 rfl ?_
 refine At.store1 rfl rfl hbx sz53 (by simp) (hO1).one (fun w9 S4 => ?_)
 replace hb0 := S4.other hb0 n_b0_bx
 replace hbp := S4.other hbp n_bp_bx
 replace hb1 := S4.other hb1 n_bx_b1.symm
 replace hb2 := S4.other hb2 n_bx_b2.symm
 replace hb3 := S4.other hb3 n_bx_b3.symm
 replace hO1 := hO1.set S4 (hO1.neT hbx rfl)
 replace hX := Xs.set hX S4 (by simp)
 replace hbx : w9.heap[bx]? = some (.cells #[.string nm, va1] 55) := S4.new
 replace hR := hR.setF S4 (.inl (.inr (.inl rfl)))
 replace hB := Fr.below hR hB0 hB0.size hSge
 refine .ops0 (.doneN (ResV.nil) ?_)
 exact RetP.ok (by simp only [op1P, SB, hq1, hq2, hq3, hq4, hq5] <;> rfl) hR hts5 hb0 ⟨rfl, hbp, _, _, hbx, hO1, Xs.append (Xs.weaken hX (by intro o ho; simp only [List.mem_cons] at ho ⊢; rcases ho with h | h | h | h <;> simp [h])) (fun u hu => by obtain rfl := List.mem_singleton.1 hu; exact ⟨ownOp_ok _ _ _ _ _, fun _ h => h.elim⟩), rfl, ghO1, hR.size, OwnR.neT hO1 hbx rfl⟩
theorem data1_any {wB : World} {b0 : Nat} {en dp : Int} (ts : List Tk) (v : Value) (M : List (Option Nat)) (bx bp : Nat) (vo : Value) (es : List Cn) (nm : ByteArray) (w : World) (hB0 : Below wB.heap.size wB w) (hSge : ∀ k, (k = b0 ∨ k = bx ∨ some k = vo.ownBlock) → wB.heap.size ≤ k) (hts : RowsAt wB v 4 (ts.map Tk.cs)) (hb0 : w.heap[b0]? = some (.cells #[v, .int .i64 en, .int .i64 dp] 81)) (hbx : w.heap[bx]? = some (.cells #[.string nm, vo] 66)) (hbp : w.heap[bp]? = some (.cells #[.pointer (some ⟨b0, 0, none⟩)] 77)) (hO : OwnR 68 2 Cn.cs w vo es) (hX : Xs kCn (vo.ownBlock :: some b0 :: some bx :: M) w es) (hMl : MLt w.heap.size M) (hnn : es.length + ts.length ≤ 100000000) (hnx : some bx ≠ vo.ownBlock) :
  Calls Try.prog 70 ([.pointer (some ⟨bp, 0, none⟩), .pointer (some ⟨bx, 0, none⟩)] : List Value).toArray w fun e w' => RetP (fun k => k = b0 ∨ k = bx ∨ some k = vo.ownBlock) wB b0 en dp (GrowOk kCn 68 2 Cn.cs rCn M (fun v => #[.string nm, v]) bx 66 bp b0 77 vo es w) (cn1P en ts) w e w' := by
 have n_b0_bp : b0 ≠ bp := ne_ty hb0 hbp rfl; have n_b0_bx : b0 ≠ bx := ne_ty hb0 hbx rfl; have n_bp_bx : bp ≠ bx := ne_ty hbp hbx rfl; have geO : ∀ g, Value.ownBlock vo = some g → vo.ownBlock = some g ∨ w.heap.size ≤ g := fun g h => .inl h; have htl := hts.lenL
 have hR := Fr.refl (fun k => k = b0 ∨ k = bx ∨ some k = vo.ownBlock) w
 have hB := hB0
 refine At.enter (N := 32) Try.func70 rfl rfl (by simp) [(0, .pointer (some ⟨bp, 0, none⟩)), (1, .pointer (some ⟨bx, 0, none⟩))] (by simp) ?_
 refine .seq (.region (.load rfl (Ld.ownCell ag77 hbp rfl) rfl ?_))
 refine At.callP en66 rfl rfl (word_any ts v 3 _ hB (fun k hk => hSge k (.inl hk)) hts hb0 (by decide)) (fun e wp1 hR' => ?_)
 rcases hR'.cases.symm with ⟨ba, bc, hq1, rfl, hF1, hbb⟩ | ⟨x1, us1, val1, vr1, hq1, rfl, hF1, hts1, hbo1, ho1⟩
 ·exact .inr ⟨_, rfl, (Pk.then (Pk.body (RetP.bad (by simp only [cn1P, SB, hq1] <;> rfl) (Fr.then hR hF1 (fun k hk => .inl (.inl hk))) hbb)))⟩
 refine .inl ⟨_, rfl, ?_⟩
 replace hbp := Fr.oldB hF1 hbp (n_b0_bp.symm)
 replace hbx := Fr.oldB hF1 hbx (n_b0_bx.symm)
 replace hO := OwnR.frB hO hF1 hb0 rfl
 replace hX := Xs.frS hX hF1 (by rintro k rfl; simp)
 replace hb0 := hbo1
 have hsz1 := hR.size
 replace hR := Fr.then hR hF1 (fun k hk => .inl (.inl hk))
 replace hB := Fr.below hR hB0 hB0.size hSge
 obtain rfl := ho1
 refine .fieldC rfl ft47_1 ag9 (((tk_ok x1)).c1) rfl (.build (C := #[.string (bs x1.t), zN]) sd68 ze68 rfl (Bld.cons fo68_0 rfl (by first | decide | exact Nat.le_of_ble_eq_true rfl) (Bld.nil _)) rfl ?_)
 refine At.alloc ze68 rfl (fun b1 w1 F1 => ?_)
 have q_hO_b1 : some b1 ≠ Value.ownBlock vo := Own.neFresh hO F1
 have n_b0_b1 : b0 ≠ b1 := Nat.ne_of_lt (F1.lt hb0)
 have n_bp_b1 : bp ≠ b1 := Nat.ne_of_lt (F1.lt hbp)
 have n_bx_b1 : bx ≠ b1 := Nat.ne_of_lt (F1.lt hbx)
 have gb1 := Nat.le_trans hR.size (Nat.le_of_eq F1.eq.symm)
 replace hb0 := F1.old hb0
 replace hbp := F1.old hbp
 replace hbx := F1.old hbx
 replace hO := hO.fresh F1
 replace hX := Xs.fresh hX F1
 have hb1 : w1.heap[b1]? = some (.cells #[zS, zN] 68) := F1.new
 replace hR := hR.freshF F1
 replace hB := Fr.below hR hB0 hB0.size hSge
 refine At.storeAll rfl rfl hb1 sz68 rfl (by first | (simp [Value.oneCell', ((SlOk.nil)).one]; done) | (simp only [List.all_toArray, List.all_cons, List.all_nil, ((SlOk.nil)).one, Bool.and_true, Bool.true_and]; rfl)) (fun w2 S1 => ?_)
 replace hb0 := S1.other hb0 n_b0_b1
 replace hbp := S1.other hbp n_bp_b1
 replace hbx := S1.other hbx n_bx_b1
 replace hO := hO.set S1 q_hO_b1
 replace hX := Xs.set hX S1 (by simp)
 replace hb1 : w2.heap[b1]? = some (.cells #[.string (bs x1.t), zN] 68) := S1.new
 replace hR := hR.setF S1 (.inr gb1)
 replace hB := Fr.below hR hB0 hB0.size hSge
 refine .ops0 (.thenN (.seq (.block ?_)))
 refine At.loop (List Tk × Value × Nat × Value × List Ty) (fun (us, vr, f, vf, lf) => [(0, .pointer (some ⟨bp, 0, none⟩)), (1, .pointer (some ⟨bx, 0, none⟩)), (2, .pointer (some ⟨b1, 0, none⟩))]) (fun (us, vr, f, vf, lf) w3 => Fr (fun k => k = b0 ∨ k = bx ∨ some k = vo.ownBlock) w w3 ∧ w3.heap[b0]? = some (.cells #[vr, .int .i64 en, .int .i64 dp] 81) ∧ w3.heap[bp]? = some (.cells #[.pointer (some ⟨b0, 0, none⟩)] 77) ∧ w3.heap[bx]? = some (.cells #[.string nm, vo] 66) ∧ w3.heap[b1]? = some (.cells #[.string (bs x1.t), vf] 68) ∧ OwnR 68 2 Cn.cs w3 vo es ∧ OwnR 33 6 Ty.cs w3 vf lf ∧ Xs kCn (Value.ownBlock vf :: some b1 :: Value.ownBlock vo :: some b0 :: some bx :: M) w3 es ∧ (RowsAt wB vr 4 (us.map Tk.cs)) ∧ (cn1P en ts = (fieldsP en f (lf.map shTy) us).bind fun fs ts => .ok ⟨bs x1.t, fs⟩ ts) ∧ (us.length < f) ∧ (∀ g, Value.ownBlock vf = some g → w.heap.size ≤ g) ∧ (∀ t ∈ lf, TyOk t) ∧ (lf.length + us.length ≤ ts.length)) (fun (us, vr, f, vf, lf) => f) (us1, vr1, (us1.length + 1), zN, []) (Sub.cons rfl (Sub.cons rfl (Sub.cons rfl Sub.nil))) ⟨hR, hb0, hbp, hbx, hb1, hO, OwnR.nil 33 6 Ty.cs _, (Xs.weakenNone (v := .slice none 0 0) (M' := (Value.ownBlock zN :: some b1 :: Value.ownBlock vo :: some b0 :: some bx :: M)) hX (by intro o ho; simp only [List.mem_cons] at ho ⊢; rcases ho with h | h | h | h | h | h <;> simp [h, Value.ownBlock])), (hts1), (by simp only [cn1P, hq1, PR.bind_ok]; rfl), (Nat.lt_succ_self _), (fun g h => by cases h), (fun t h => by cases h), (by have := PR.Sh.of (word_sh en 3 (by decide) ts) hq1; simp; omega)⟩ (fun gh w3 hI => ?_)
 obtain ⟨us, vr, f, vf, lf⟩ := gh
 clear hR hB hb0 hbp hbx hb1 hO hX
 obtain ⟨hR, hb0, hbp, hbx, hb1, hO, hOf, hX, hus, hs, hfl, gOf, hall, hln⟩ := hI
 have hB := Fr.below hR hB0 hB0.size hSge
 show At _ _ [(0, .pointer (some ⟨bp, 0, none⟩)), (1, .pointer (some ⟨bx, 0, none⟩)), (2, .pointer (some ⟨b1, 0, none⟩))] _ _
 refine .seq (.seq (.region (.load rfl (Ld.ownCell ag77 hbp rfl) rfl (.nilCheck rfl rfl (.fieldAddr rfl fo81_0 rfl ?_)))))
 refine At.buildSlice (xs := [.const (.string (⟨#[105, 110, 116]⟩ : ByteArray)), .const (.string (⟨#[98, 111, 111, 108]⟩ : ByteArray)), .const (.string (⟨#[117, 110, 105, 116]⟩ : ByteArray))]) rfl rfl el29 sz9 ze9 (by intro v hv; simp only [List.mem_cons, List.not_mem_nil, or_false] at hv; rcases hv with rfl | rfl | rfl <;> first | rfl | simp [Value.cells]) rfl (by decide) rfl (fun b2 w4 F2 => ?_)
 have n_b0_b2 : b0 ≠ b2 := Nat.ne_of_lt (F2.lt hb0)
 have n_bp_b2 : bp ≠ b2 := Nat.ne_of_lt (F2.lt hbp)
 have n_bx_b2 : bx ≠ b2 := Nat.ne_of_lt (F2.lt hbx)
 have n_b1_b2 : b1 ≠ b2 := Nat.ne_of_lt (F2.lt hb1)
 have gb2 := Nat.le_trans hR.size (Nat.le_of_eq F2.eq.symm)
 replace hb0 := F2.old hb0
 replace hbp := F2.old hbp
 replace hbx := F2.old hbx
 replace hb1 := F2.old hb1
 replace hO := hO.fresh F2
 replace hOf := hOf.fresh F2
 replace hX := Xs.fresh hX F2
 have hb2 : w4.heap[b2]? = some (.cells #[.string (⟨#[105, 110, 116]⟩ : ByteArray), .string (⟨#[98, 111, 111, 108]⟩ : ByteArray), .string (⟨#[117, 110, 105, 116]⟩ : ByteArray)] 9) := F2.new
 replace hR := hR.freshF F2
 replace hB := Fr.below hR hB0 hB0.size hSge
 refine At.call en43 rfl rfl (is_any us vr (.slice (some ⟨b2, 0, none⟩) 3 3) ([(⟨#[105, 110, 116]⟩ : ByteArray), (⟨#[98, 111, 111, 108]⟩ : ByteArray), (⟨#[117, 110, 105, 116]⟩ : ByteArray)]) _ ((hus).keep hB) hb0 ((StrsAt.own (ss := [(⟨#[105, 110, 116]⟩ : ByteArray), (⟨#[98, 111, 111, 108]⟩ : ByteArray), (⟨#[117, 110, 105, 116]⟩ : ByteArray)]) hb2 rfl (by decide) : StrsAt _ (.slice (some ⟨b2, 0, none⟩) 3 3) [(⟨#[105, 110, 116]⟩ : ByteArray), (⟨#[98, 111, 111, 108]⟩ : ByteArray), (⟨#[117, 110, 105, 116]⟩ : ByteArray)]))) (fun e w5 hR' => ?_)
 obtain ⟨rfl, hbl1⟩ := hR'
 refine ⟨_, rfl, ?_⟩
 replace hb0 := Below.old hbl1 hb0
 replace hbp := Below.old hbl1 hbp
 replace hbx := Below.old hbl1 hbx
 replace hb1 := Below.old hbl1 hb1
 replace hb2 := Below.old hbl1 hb2
 replace hO := hO.below hbl1
 replace hOf := hOf.below hbl1
 replace hX := Xs.below hX hbl1
 replace hR := hR.callF hbl1
 replace hB := Fr.below hR hB0 hB0.size hSge
 refine .move rfl rfl ?_
 refine At.cases ((isK en us ([(⟨#[105, 110, 116]⟩ : ByteArray), (⟨#[98, 111, 111, 108]⟩ : ByteArray), (⟨#[117, 110, 105, 116]⟩ : ByteArray)]))) (fun hg1 => ?_) (fun hg1 => ?_)
 ·skip
  refine .set (d := 12) (u := .bool true) rfl (congrArg Value.bool hg1) (.no rfl rfl rfl rfl rfl rfl rfl (.no rfl rfl rfl rfl rfl rfl rfl (.no rfl rfl rfl rfl rfl rfl rfl (.no rfl rfl rfl rfl rfl rfl rfl (.no rfl rfl rfl rfl rfl rfl rfl (.pickT rfl rfl rfl (.ops0 (.thenN (.condT rfl (.skip (.thenN (.block (.drawG (n := 8) mixed (by kernel_rfl) rfl (PanicOk.block (PanicOk.then (PanicOk.block (PanicOk.then PanicOk.body)))) ?_)))))))))))))
  have hR := Fr.drewF hR
  have hB := Below.drewB hB
  have hb0 : _ := (show w5.drew.heap[b0]? = _ from hb0)
  have hbp : _ := (show w5.drew.heap[bp]? = _ from hbp)
  have hbx : _ := (show w5.drew.heap[bx]? = _ from hbx)
  have hb1 : _ := (show w5.drew.heap[b1]? = _ from hb1)
  have hb2 : _ := (show w5.drew.heap[b2]? = _ from hb2)
  have hO := hO.drew
  have hOf := hOf.drew
  have hX := Xs.drew hX
  refine At.wpcS (i := 0) (d := 19) (.pointer (some ⟨b1, 0 + 1, none⟩)) (by kernel_rfl) rfl rfl rfl (fun Lx => ?_) ?_
  ·skip
   refine .fieldAddr rfl fo68_1 rfl (.ops0 ?_)
   exact fun a ha => ⟨ha, rfl⟩
  refine At.wpcS (i := 1) (d := 20) (vf) (by kernel_rfl) rfl rfl rfl (fun Lx => ?_) ?_
  ·skip
   refine .load rfl (Ld.ownCell ag28 hb1 rfl) rfl (.ops0 ?_)
   exact fun a ha => ⟨ha, rfl⟩
  refine At.wpcS (i := 2) (d := 21) (.pointer (some ⟨b0, 0, none⟩)) (by kernel_rfl) rfl rfl rfl (fun Lx => ?_) ?_
  ·skip
   refine .load rfl (Ld.ownCell ag77 hbp rfl) rfl (.ops0 ?_)
   exact fun a ha => ⟨ha, rfl⟩
  refine At.wpcE [3] (by kernel_rfl) (by kernel_rfl) (.cons [0, 1] rfl (by kernel_rfl) ?_ .nil)
  refine At.callP en69 rfl rfl (typ_any us vr  _ hB (fun k hk => hSge k (.inl hk)) hus hb0) (fun e wp2 hR' => ?_)
  rcases hR'.cases.symm with ⟨ba, bc, hq2, rfl, hF2, hbb⟩ | ⟨x2, us2, val2, vr2, hq2, rfl, hF2, hts2, hbo2, ho2⟩
  ·exact .inr ⟨_, rfl, (Pk.norm (Pk.block (Pk.then (Pk.block (Pk.then (Pk.body (RetP.bad (by obtain ⟨q, rfl⟩ : ∃ q, f = q + 1 := ⟨f - 1, by omega⟩; rw [hs, fieldsP]; simp only [cn1P, SB, hg1, hq1, hq2] <;> rfl) (Fr.then hR hF2 (fun k hk => .inl (.inl hk))) hbb)))))))⟩
  refine .inl ⟨_, rfl, ?_⟩
  replace hbp := Fr.oldB hF2 hbp (n_b0_bp.symm)
  replace hbx := Fr.oldB hF2 hbx (n_b0_bx.symm)
  replace hb1 := Fr.oldB hF2 hb1 (n_b0_b1.symm)
  replace hb2 := Fr.oldB hF2 hb2 (n_b0_b2.symm)
  replace hO := OwnR.frB hO hF2 hb0 rfl
  replace hOf := OwnR.frB hOf hF2 hb0 rfl
  replace hX := Xs.frS hX hF2 (by rintro k rfl; simp)
  replace hb0 := hbo2
  have hsz2 := hR.size
  replace hR := Fr.then hR hF2 (fun k hk => .inl (.inl hk))
  replace hB := Fr.below hR hB0 hB0.size hSge
  obtain rfl := ho2
  refine .ops0 ?_
  refine At.wpcN (.cons rfl rfl rfl rfl (fun Lx => ?_) (.cons rfl rfl rfl rfl (fun Lx => ?_) .nil)) ?_
  ·skip
   refine .fieldAddr rfl fo68_1 rfl (.ops0 ?_)
   exact fun a ha => ⟨ha, rfl⟩
  ·skip
   refine .load rfl (Ld.ownCell ag28 hb1 rfl) rfl (.ops0 ?_)
   exact fun a ha => ⟨ha, rfl⟩
  refine At.wpcE [4] (by kernel_rfl) (by kernel_rfl) (.cons [0, 1] rfl (by kernel_rfl) ?_ .nil)
  refine At.buildSlice (xs := [.tmp 22]) rfl rfl el28 sz33 ze33 (by intro v hv; simp only [List.mem_cons, List.not_mem_nil, or_false] at hv; rcases hv with rfl <;> first | rfl | simp [Value.cells, ((ownTy_ok x2.k x2.nm)).size]) rfl (by decide) rfl (fun b3 w6 F3 => ?_)
  have q_hOf_b3 : some b3 ≠ Value.ownBlock vf := Own.neFresh hOf F3
  have n_b0_b3 : b0 ≠ b3 := Nat.ne_of_lt (F3.lt hb0)
  have n_bp_b3 : bp ≠ b3 := Nat.ne_of_lt (F3.lt hbp)
  have n_bx_b3 : bx ≠ b3 := Nat.ne_of_lt (F3.lt hbx)
  have n_b1_b3 : b1 ≠ b3 := Nat.ne_of_lt (F3.lt hb1)
  have n_b2_b3 : b2 ≠ b3 := Nat.ne_of_lt (F3.lt hb2)
  have gb3 := Nat.le_trans hR.size (Nat.le_of_eq F3.eq.symm)
  replace hb0 := F3.old hb0
  replace hbp := F3.old hbp
  replace hbx := F3.old hbx
  replace hb1 := F3.old hb1
  replace hb2 := F3.old hb2
  replace hO := hO.fresh F3
  replace hOf := hOf.fresh F3
  replace hX := Xs.fresh hX F3
  have hb3 : w6.heap[b3]? = some (.cells (([(ownTy x2.k x2.nm)].map Ty.cs).flatMap (·.toList)).toArray 33) := F3.new
  replace hR := hR.freshF F3
  replace hB := Fr.below hR hB0 hB0.size hSge
  refine .ops0 ?_
  refine At.wpcN (.cons rfl rfl rfl rfl (fun Lx => ?_) (.cons rfl rfl rfl rfl (fun Lx => ?_) .nil)) ?_
  ·skip
   refine .fieldAddr rfl fo68_1 rfl (.ops0 ?_)
   exact fun a ha => ⟨ha, rfl⟩
  ·skip
   refine .load rfl (Ld.ownCell ag28 hb1 rfl) rfl (.ops0 ?_)
   exact fun a ha => ⟨ha, rfl⟩
  refine At.wpcE [5] (by kernel_rfl) (by kernel_rfl) (.cons [] rfl (by kernel_rfl) ?_ .nil)
  refine At.appendR (f := Ty.cs) rfl rfl el28 el28 sz33 by33 ze33 rfl hOf (rows_own (f := Ty.cs) (m := 1) hb3 (fun u hu => ((mem1 (Q := fun u => TyOk u) (ownTy_ok x2.k x2.nm)) u hu).size) rfl (by decide)) (by decide) (fun u hu => (((mem1 (Q := fun u => TyOk u) (ownTy_ok x2.k x2.nm))) u hu).one) (by first | omega | (simp; omega)) (by first | omega | (simp; omega)) rfl (fun va1 w7 hO1 hA1 => ?_)
  replace hO1 : OwnR 33 6 Ty.cs w7 va1 (lf ++ [(ownTy x2.k x2.nm)]) := hO1
  replace hb0 := hA1.old hb0 (hOf.neT hb0 rfl)
  replace hbp := hA1.old hbp (hOf.neT hbp rfl)
  replace hbx := hA1.old hbx (hOf.neT hbx rfl)
  replace hb1 := hA1.old hb1 (hOf.neT hb1 rfl)
  replace hb2 := hA1.old hb2 (hOf.neT hb2 rfl)
  clear hb3
  replace hO := OwnR.keepT hA1 hOf hO rfl
  replace hX := Xs.app hX hA1 (.inr (by simp))
  have ghO1 := hA1.ge hR.size gOf
  replace hR := hR.appF hA1 (fun g hg => .inr (gOf g hg))
  replace hB := Fr.below hR hB0 hB0.size hSge
  refine .ops0 (.wpcN .nil ?_)
  refine At.wpcS (i := 6) (d := 25) (.pointer (some ⟨b1, 0 + 1, none⟩)) (by kernel_rfl) rfl rfl rfl (fun Lx => ?_) ?_
  ·skip
   refine .fieldAddr rfl fo68_1 rfl (.ops0 ?_)
   exact fun a ha => ⟨ha, rfl⟩
  refine At.wpcE [7] (by kernel_rfl) (by kernel_rfl) (.cons [] rfl (by kernel_rfl) ?_ .nil)
  refine At.store1 rfl rfl hb1 sz28 (by simp) (hO1).one (fun w8 S2 => ?_)
  replace hb0 := S2.other hb0 n_b0_b1
  replace hbp := S2.other hbp n_bp_b1
  replace hbx := S2.other hbx n_bx_b1
  replace hb2 := S2.other hb2 n_b1_b2.symm
  replace hO := hO.set S2 q_hO_b1
  replace hO1 := hO1.set S2 (hO1.neT hb1 rfl)
  replace hX := Xs.set hX S2 (by simp)
  replace hb1 : w8.heap[b1]? = some (.cells #[.string (bs x1.t), va1] 68) := S2.new
  replace hR := hR.setF S2 (.inr gb1)
  replace hB := Fr.below hR hB0 hB0.size hSge
  refine .ops0 (.wpcN .nil (.wpcZ (.inN (.thenN ?_))))
  exact fun act_ hact_ => ⟨(us2, vr2, (f - 1), va1, (lf ++ [(ownTy x2.k x2.nm)])), hact_.sub (Sub.cons rfl (Sub.cons rfl (Sub.cons rfl Sub.nil))), ⟨hR, hb0, hbp, hbx, hb1, hO, hO1, (Xs.weaken (M' := (Value.ownBlock va1 :: some b1 :: Value.ownBlock vo :: some b0 :: some bx :: M)) hX (SubM.cons (.head _) (SubM.cons (.tail _ (.tail _ (.tail _ (.tail _ (.head _))))) (SubM.cons (.tail _ (.tail _ (.tail _ (.tail _ (.tail _ (.head _)))))) (SubM.cons (.tail _ (.tail _ (.tail _ (.tail _ (.tail _ (.tail _ (.head _))))))) (SubM.cons (.tail _ (.tail _ (.tail _ (.tail _ (.tail _ (.tail _ (.tail _ (.head _)))))))) (fun o h => (.tail _ (.tail _ (.tail _ (.tail _ (.tail _ (.tail _ (.tail _ (.tail _ h))))))))))))))), (hts2), (by obtain ⟨q, rfl⟩ : ∃ q, f = q + 1 := ⟨f - 1, by omega⟩; rw [hs, fieldsP]; simp only [hg1, hq1, hq2, tyWords, Bool.true_or, Bool.or_true, Bool.or_self, Bool.false_or, cond_true, PR.bind_ok, List.map_append]; rfl), (by have := PR.Sh.of (typ_sh en us) hq2; omega), (ghO1), ((all_app (Q := fun u => TyOk u) hall (mem1 (Q := fun u => TyOk u) (ownTy_ok x2.k x2.nm)))), (by have := PR.Sh.of (typ_sh en us) hq2; simp; omega)⟩, by first | omega | (dsimp only; omega)⟩
 ·skip
  refine .set (d := 12) (u := .bool false) rfl (congrArg Value.bool hg1) (.yes rfl rfl rfl rfl (.load rfl (Ld.ownCell ag77 hbp rfl) rfl (.yes rfl rfl rfl rfl (.nilCheck rfl rfl (.yes rfl rfl rfl rfl (.fieldAddr rfl fo81_0 rfl (.yes rfl rfl rfl rfl ?_)))))))
  refine At.buildSlice (xs := [.const (.int .i64 3)]) rfl rfl el48 sz3 ze3 (by intro v hv; simp only [List.mem_cons, List.not_mem_nil, or_false] at hv; rcases hv with rfl <;> first | rfl | simp [Value.cells]) rfl (by decide) rfl (fun b4 w9 F4 => ?_)
  have n_b0_b4 : b0 ≠ b4 := Nat.ne_of_lt (F4.lt hb0)
  have n_bp_b4 : bp ≠ b4 := Nat.ne_of_lt (F4.lt hbp)
  have n_bx_b4 : bx ≠ b4 := Nat.ne_of_lt (F4.lt hbx)
  have n_b1_b4 : b1 ≠ b4 := Nat.ne_of_lt (F4.lt hb1)
  have n_b2_b4 : b2 ≠ b4 := Nat.ne_of_lt (F4.lt hb2)
  have gb4 := Nat.le_trans hR.size (Nat.le_of_eq F4.eq.symm)
  replace hb0 := F4.old hb0
  replace hbp := F4.old hbp
  replace hbx := F4.old hbx
  replace hb1 := F4.old hb1
  replace hb2 := F4.old hb2
  replace hO := hO.fresh F4
  replace hOf := hOf.fresh F4
  replace hX := Xs.fresh hX F4
  have hb4 : w9.heap[b4]? = some (.cells #[.int .i64 3] 3) := F4.new
  replace hR := hR.freshF F4
  replace hB := Fr.below hR hB0 hB0.size hSge
  refine .yes rfl rfl rfl rfl ?_
  refine At.call en71 rfl rfl (kind_any us vr (.slice (some ⟨b4, 0, none⟩) 1 1) ([3]) _ ((hus).keep hB) hb0 ((IntsAt.own (l := [3]) hb4 rfl (by decide) : IntsAt _ (.slice (some ⟨b4, 0, none⟩) 1 1) [3]))) (fun e w10 hR' => ?_)
  obtain ⟨rfl, hbl2⟩ := hR'
  refine ⟨_, rfl, ?_⟩
  replace hb0 := Below.old hbl2 hb0
  replace hbp := Below.old hbl2 hbp
  replace hbx := Below.old hbl2 hbx
  replace hb1 := Below.old hbl2 hb1
  replace hb2 := Below.old hbl2 hb2
  replace hb4 := Below.old hbl2 hb4
  replace hO := hO.below hbl2
  replace hOf := hOf.below hbl2
  replace hX := Xs.below hX hbl2
  replace hR := hR.callF hbl2
  replace hB := Fr.below hR hB0 hB0.size hSge
  refine .pickF rfl rfl rfl (.ops0 (.thenN ?_))
  refine At.cond (b := (kdK en us ([3]))) rfl (fun hc1 => ?_) (fun hc1 => ?_)
  ·skip
   refine .skip (.thenN (.block (.drawG (n := 8) mixed (by kernel_rfl) rfl (PanicOk.block (PanicOk.then (PanicOk.block (PanicOk.then PanicOk.body)))) ?_)))
   have hR := Fr.drewF hR
   have hB := Below.drewB hB
   have hb0 : _ := (show w10.drew.heap[b0]? = _ from hb0)
   have hbp : _ := (show w10.drew.heap[bp]? = _ from hbp)
   have hbx : _ := (show w10.drew.heap[bx]? = _ from hbx)
   have hb1 : _ := (show w10.drew.heap[b1]? = _ from hb1)
   have hb2 : _ := (show w10.drew.heap[b2]? = _ from hb2)
   have hb4 : _ := (show w10.drew.heap[b4]? = _ from hb4)
   have hO := hO.drew
   have hOf := hOf.drew
   have hX := Xs.drew hX
   refine At.wpcS (i := 0) (d := 19) (.pointer (some ⟨b1, 0 + 1, none⟩)) (by kernel_rfl) rfl rfl rfl (fun Lx => ?_) ?_
   ·skip
    refine .fieldAddr rfl fo68_1 rfl (.ops0 ?_)
    exact fun a ha => ⟨ha, rfl⟩
   refine At.wpcS (i := 1) (d := 20) (vf) (by kernel_rfl) rfl rfl rfl (fun Lx => ?_) ?_
   ·skip
    refine .load rfl (Ld.ownCell ag28 hb1 rfl) rfl (.ops0 ?_)
    exact fun a ha => ⟨ha, rfl⟩
   refine At.wpcS (i := 2) (d := 21) (.pointer (some ⟨b0, 0, none⟩)) (by kernel_rfl) rfl rfl rfl (fun Lx => ?_) ?_
   ·skip
    refine .load rfl (Ld.ownCell ag77 hbp rfl) rfl (.ops0 ?_)
    exact fun a ha => ⟨ha, rfl⟩
   refine At.wpcE [3] (by kernel_rfl) (by kernel_rfl) (.cons [0, 1] rfl (by kernel_rfl) ?_ .nil)
   refine At.callP en69 rfl rfl (typ_any us vr  _ hB (fun k hk => hSge k (.inl hk)) hus hb0) (fun e wp3 hR' => ?_)
   rcases hR'.cases.symm with ⟨ba, bc, hq3, rfl, hF3, hbb⟩ | ⟨x3, us3, val3, vr3, hq3, rfl, hF3, hts3, hbo3, ho3⟩
   ·exact .inr ⟨_, rfl, (Pk.norm (Pk.block (Pk.then (Pk.block (Pk.then (Pk.body (RetP.bad (by obtain ⟨q, rfl⟩ : ∃ q, f = q + 1 := ⟨f - 1, by omega⟩; rw [hs, fieldsP]; simp only [cn1P, SB, hg1, hc1, hq1, hq3] <;> rfl) (Fr.then hR hF3 (fun k hk => .inl (.inl hk))) hbb)))))))⟩
   refine .inl ⟨_, rfl, ?_⟩
   replace hbp := Fr.oldB hF3 hbp (n_b0_bp.symm)
   replace hbx := Fr.oldB hF3 hbx (n_b0_bx.symm)
   replace hb1 := Fr.oldB hF3 hb1 (n_b0_b1.symm)
   replace hb2 := Fr.oldB hF3 hb2 (n_b0_b2.symm)
   replace hb4 := Fr.oldB hF3 hb4 (n_b0_b4.symm)
   replace hO := OwnR.frB hO hF3 hb0 rfl
   replace hOf := OwnR.frB hOf hF3 hb0 rfl
   replace hX := Xs.frS hX hF3 (by rintro k rfl; simp)
   replace hb0 := hbo3
   have hsz3 := hR.size
   replace hR := Fr.then hR hF3 (fun k hk => .inl (.inl hk))
   replace hB := Fr.below hR hB0 hB0.size hSge
   obtain rfl := ho3
   refine .ops0 ?_
   refine At.wpcN (.cons rfl rfl rfl rfl (fun Lx => ?_) (.cons rfl rfl rfl rfl (fun Lx => ?_) .nil)) ?_
   ·skip
    refine .fieldAddr rfl fo68_1 rfl (.ops0 ?_)
    exact fun a ha => ⟨ha, rfl⟩
   ·skip
    refine .load rfl (Ld.ownCell ag28 hb1 rfl) rfl (.ops0 ?_)
    exact fun a ha => ⟨ha, rfl⟩
   refine At.wpcE [4] (by kernel_rfl) (by kernel_rfl) (.cons [0, 1] rfl (by kernel_rfl) ?_ .nil)
   refine At.buildSlice (xs := [.tmp 22]) rfl rfl el28 sz33 ze33 (by intro v hv; simp only [List.mem_cons, List.not_mem_nil, or_false] at hv; rcases hv with rfl <;> first | rfl | simp [Value.cells, ((ownTy_ok x3.k x3.nm)).size]) rfl (by decide) rfl (fun b5 w11 F5 => ?_)
   have q_hOf_b5 : some b5 ≠ Value.ownBlock vf := Own.neFresh hOf F5
   have n_b0_b5 : b0 ≠ b5 := Nat.ne_of_lt (F5.lt hb0)
   have n_bp_b5 : bp ≠ b5 := Nat.ne_of_lt (F5.lt hbp)
   have n_bx_b5 : bx ≠ b5 := Nat.ne_of_lt (F5.lt hbx)
   have n_b1_b5 : b1 ≠ b5 := Nat.ne_of_lt (F5.lt hb1)
   have n_b2_b5 : b2 ≠ b5 := Nat.ne_of_lt (F5.lt hb2)
   have n_b4_b5 : b4 ≠ b5 := Nat.ne_of_lt (F5.lt hb4)
   have gb5 := Nat.le_trans hR.size (Nat.le_of_eq F5.eq.symm)
   replace hb0 := F5.old hb0
   replace hbp := F5.old hbp
   replace hbx := F5.old hbx
   replace hb1 := F5.old hb1
   replace hb2 := F5.old hb2
   replace hb4 := F5.old hb4
   replace hO := hO.fresh F5
   replace hOf := hOf.fresh F5
   replace hX := Xs.fresh hX F5
   have hb5 : w11.heap[b5]? = some (.cells (([(ownTy x3.k x3.nm)].map Ty.cs).flatMap (·.toList)).toArray 33) := F5.new
   replace hR := hR.freshF F5
   replace hB := Fr.below hR hB0 hB0.size hSge
   refine .ops0 ?_
   refine At.wpcN (.cons rfl rfl rfl rfl (fun Lx => ?_) (.cons rfl rfl rfl rfl (fun Lx => ?_) .nil)) ?_
   ·skip
    refine .fieldAddr rfl fo68_1 rfl (.ops0 ?_)
    exact fun a ha => ⟨ha, rfl⟩
   ·skip
    refine .load rfl (Ld.ownCell ag28 hb1 rfl) rfl (.ops0 ?_)
    exact fun a ha => ⟨ha, rfl⟩
   refine At.wpcE [5] (by kernel_rfl) (by kernel_rfl) (.cons [] rfl (by kernel_rfl) ?_ .nil)
   refine At.appendR (f := Ty.cs) rfl rfl el28 el28 sz33 by33 ze33 rfl hOf (rows_own (f := Ty.cs) (m := 1) hb5 (fun u hu => ((mem1 (Q := fun u => TyOk u) (ownTy_ok x3.k x3.nm)) u hu).size) rfl (by decide)) (by decide) (fun u hu => (((mem1 (Q := fun u => TyOk u) (ownTy_ok x3.k x3.nm))) u hu).one) (by first | omega | (simp; omega)) (by first | omega | (simp; omega)) rfl (fun va2 w12 hO2 hA2 => ?_)
   replace hO2 : OwnR 33 6 Ty.cs w12 va2 (lf ++ [(ownTy x3.k x3.nm)]) := hO2
   replace hb0 := hA2.old hb0 (hOf.neT hb0 rfl)
   replace hbp := hA2.old hbp (hOf.neT hbp rfl)
   replace hbx := hA2.old hbx (hOf.neT hbx rfl)
   replace hb1 := hA2.old hb1 (hOf.neT hb1 rfl)
   replace hb2 := hA2.old hb2 (hOf.neT hb2 rfl)
   replace hb4 := hA2.old hb4 (hOf.neT hb4 rfl)
   clear hb5
   replace hO := OwnR.keepT hA2 hOf hO rfl
   replace hX := Xs.app hX hA2 (.inr (by simp))
   have ghO2 := hA2.ge hR.size gOf
   replace hR := hR.appF hA2 (fun g hg => .inr (gOf g hg))
   replace hB := Fr.below hR hB0 hB0.size hSge
   refine .ops0 (.wpcN .nil ?_)
   refine At.wpcS (i := 6) (d := 25) (.pointer (some ⟨b1, 0 + 1, none⟩)) (by kernel_rfl) rfl rfl rfl (fun Lx => ?_) ?_
   ·skip
    refine .fieldAddr rfl fo68_1 rfl (.ops0 ?_)
    exact fun a ha => ⟨ha, rfl⟩
   refine At.wpcE [7] (by kernel_rfl) (by kernel_rfl) (.cons [] rfl (by kernel_rfl) ?_ .nil)
   refine At.store1 rfl rfl hb1 sz28 (by simp) (hO2).one (fun w13 S3 => ?_)
   replace hb0 := S3.other hb0 n_b0_b1
   replace hbp := S3.other hbp n_bp_b1
   replace hbx := S3.other hbx n_bx_b1
   replace hb2 := S3.other hb2 n_b1_b2.symm
   replace hb4 := S3.other hb4 n_b1_b4.symm
   replace hO := hO.set S3 q_hO_b1
   replace hO2 := hO2.set S3 (hO2.neT hb1 rfl)
   replace hX := Xs.set hX S3 (by simp)
   replace hb1 : w13.heap[b1]? = some (.cells #[.string (bs x1.t), va2] 68) := S3.new
   replace hR := hR.setF S3 (.inr gb1)
   replace hB := Fr.below hR hB0 hB0.size hSge
   refine .ops0 (.wpcN .nil (.wpcZ (.inN (.thenN ?_))))
   exact fun act_ hact_ => ⟨(us3, vr3, (f - 1), va2, (lf ++ [(ownTy x3.k x3.nm)])), hact_.sub (Sub.cons rfl (Sub.cons rfl (Sub.cons rfl Sub.nil))), ⟨hR, hb0, hbp, hbx, hb1, hO, hO2, (Xs.weaken (M' := (Value.ownBlock va2 :: some b1 :: Value.ownBlock vo :: some b0 :: some bx :: M)) hX (SubM.cons (.head _) (SubM.cons (.tail _ (.tail _ (.tail _ (.tail _ (.tail _ (.head _)))))) (SubM.cons (.tail _ (.tail _ (.tail _ (.tail _ (.tail _ (.tail _ (.head _))))))) (SubM.cons (.tail _ (.tail _ (.tail _ (.tail _ (.tail _ (.tail _ (.tail _ (.head _)))))))) (SubM.cons (.tail _ (.tail _ (.tail _ (.tail _ (.tail _ (.tail _ (.tail _ (.tail _ (.head _))))))))) (fun o h => (.tail _ (.tail _ (.tail _ (.tail _ (.tail _ (.tail _ (.tail _ (.tail _ (.tail _ h)))))))))))))))), (hts3), (by obtain ⟨q, rfl⟩ : ∃ q, f = q + 1 := ⟨f - 1, by omega⟩; rw [hs, fieldsP]; simp only [hg1, hc1, hq1, hq3, tyWords, Bool.true_or, Bool.or_true, Bool.or_self, Bool.false_or, cond_true, PR.bind_ok, List.map_append]; rfl), (by have := PR.Sh.of (typ_sh en us) hq3; omega), (ghO2), ((all_app (Q := fun u => TyOk u) hall (mem1 (Q := fun u => TyOk u) (ownTy_ok x3.k x3.nm)))), (by have := PR.Sh.of (typ_sh en us) hq3; simp; omega)⟩, by first | omega | (dsimp only; omega)⟩
  ·skip
   refine .exit (.thenE (.thenE (.inE (.thenN (.region (.fieldAddr rfl fo66_1 rfl (.load rfl (Ld.ownCell ag64 hbx rfl) rfl (.load rfl (Ld.own (C := #[.string (bs x1.t), vf]) ag68 sz68 hb1) rfl ?_))))))))
   refine At.buildSlice (xs := [.tmp 28]) rfl rfl el64 sz68 ze68 (by intro v hv; simp only [List.mem_cons, List.not_mem_nil, or_false] at hv; rcases hv with rfl <;> first | rfl | simp [Value.cells, ((ownCn_ok (OwnR.rows hOf (fun u hu => ((hall) u hu).size)) (hall))).size]) rfl (by decide) rfl (fun b6 w14 F6 => ?_)
   have q_hO_b6 : some b6 ≠ Value.ownBlock vo := Own.neFresh hO F6
   have n_b0_b6 : b0 ≠ b6 := Nat.ne_of_lt (F6.lt hb0)
   have n_bp_b6 : bp ≠ b6 := Nat.ne_of_lt (F6.lt hbp)
   have n_bx_b6 : bx ≠ b6 := Nat.ne_of_lt (F6.lt hbx)
   have n_b1_b6 : b1 ≠ b6 := Nat.ne_of_lt (F6.lt hb1)
   have n_b2_b6 : b2 ≠ b6 := Nat.ne_of_lt (F6.lt hb2)
   have n_b4_b6 : b4 ≠ b6 := Nat.ne_of_lt (F6.lt hb4)
   have gb6 := Nat.le_trans hR.size (Nat.le_of_eq F6.eq.symm)
   replace hb0 := F6.old hb0
   replace hbp := F6.old hbp
   replace hbx := F6.old hbx
   replace hb1 := F6.old hb1
   replace hb2 := F6.old hb2
   replace hb4 := F6.old hb4
   replace hO := hO.fresh F6
   replace hOf := hOf.fresh F6
   replace hX := Xs.fresh hX F6
   have hb6 : w14.heap[b6]? = some (.cells (([(ownCn (bs x1.t) vf lf)].map Cn.cs).flatMap (·.toList)).toArray 68) := F6.new
   replace hR := hR.freshF F6
   replace hB := Fr.below hR hB0 hB0.size hSge
   refine At.appendR (f := Cn.cs) rfl rfl el64 el64 sz68 by68 ze68 rfl hO (rows_own (f := Cn.cs) (m := 1) hb6 (fun u hu => ((mem1 (Q := fun u => CnOk w14 u) (((ownCn_ok (OwnR.rows hOf (fun u hu => ((hall) u hu).size)) (hall))).keep (Below.refl _ _))) u hu).size) rfl (by decide)) (by decide) (fun u hu => (((mem1 (Q := fun u => CnOk w14 u) (((ownCn_ok (OwnR.rows hOf (fun u hu => ((hall) u hu).size)) (hall))).keep (Below.refl _ _)))) u hu).one) (by first | omega | (simp; omega)) (by first | omega | (simp; omega)) rfl (fun va3 w15 hO3 hA3 => ?_)
   replace hO3 : OwnR 68 2 Cn.cs w15 va3 (es ++ [(ownCn (bs x1.t) vf lf)]) := hO3
   replace hb0 := hA3.old hb0 (hO.neT hb0 rfl)
   replace hbp := hA3.old hbp (hO.neT hbp rfl)
   replace hbx := hA3.old hbx (hO.neT hbx rfl)
   have q_hO3_b1 : some b1 ≠ Value.ownBlock va3 := Moved.ne hA3.blk (Array.getElem?_eq_some_iff.1 hb1).1 q_hO_b1
   replace hb1 := hA3.old hb1 q_hO_b1
   replace hb2 := hA3.old hb2 (hO.neT hb2 rfl)
   replace hb4 := hA3.old hb4 (hO.neT hb4 rfl)
   clear hb6
   replace hOf := OwnR.keepT hA3 hO hOf rfl
   replace hX := Xs.app hX hA3 (.inr (by simp))
   have ghO3 := AppR.movedTo hA3 hR.size geO
   replace hR := hR.appF hA3 (fun g hg => (geO g hg).imp (fun h => .inr (.inr h.symm)) id)
   replace hB := Fr.below hR hB0 hB0.size hSge
   refine .fieldAddr rfl fo66_1 rfl ?_
   refine At.store1 rfl rfl hbx sz64 (by simp) (hO3).one (fun w16 S4 => ?_)
   replace hb0 := S4.other hb0 n_b0_bx
   replace hbp := S4.other hbp n_bp_bx
   replace hb1 := S4.other hb1 n_bx_b1.symm
   replace hb2 := S4.other hb2 n_bx_b2.symm
   replace hb4 := S4.other hb4 n_bx_b4.symm
   replace hOf := hOf.set S4 (hOf.neT hbx rfl)
   replace hO3 := hO3.set S4 (hO3.neT hbx rfl)
   replace hX := Xs.set hX S4 (by simp)
   replace hbx : w16.heap[bx]? = some (.cells #[.string nm, va3] 66) := S4.new
   replace hR := hR.setF S4 (.inl (.inr (.inl rfl)))
   replace hB := Fr.below hR hB0 hB0.size hSge
   refine .ops0 (.doneN (ResV.nil) ?_)
   exact RetP.ok (by obtain ⟨q, rfl⟩ : ∃ q, f = q + 1 := ⟨f - 1, by omega⟩; rw [hs, fieldsP]; simp only [cn1P, SB, hg1, hc1, hq1] <;> rfl) hR hus hb0 ⟨rfl, hbp, _, _, hbx, hO3, Xs.append (Xs.weaken hX (by intro o ho; simp only [List.mem_cons] at ho ⊢; rcases ho with h | h | h | h <;> simp [h])) (Xs.ofCn hOf (ownCn_ok (OwnR.rows hOf (fun u hu => (hall u hu).size)) hall) rfl rfl (Nin.own (fun hn e => (Own.neOwn hO3 hOf rfl hn e)) (Nin.blk (OwnR.neT hOf hb0 rfl) (Nin.blk (OwnR.neT hOf hbx rfl) (Nin.tail hMl gOf))))), ⟨rfl, fun b hb => by obtain ⟨h1, rfl⟩ := hb; exact OwnR.vbGe hOf gOf h1⟩, ghO3, hR.size, OwnR.neT hO3 hbx rfl⟩
theorem effect_any {wB : World} {b0 : Nat} {en dp : Int} (ts : List Tk) (v : Value) (w : World) (hB0 : Below wB.heap.size wB w) (hSge : ∀ k, k = b0 → wB.heap.size ≤ k) (hts : RowsAt wB v 4 (ts.map Tk.cs)) (hb0 : w.heap[b0]? = some (.cells #[v, .int .i64 en, .int .i64 dp] 81)) (hbig : ts.length ≤ 100000000) :
  Calls Try.prog 44 ([.pointer (some ⟨b0, 0, none⟩)] : List Value).toArray w fun e w' => RetP (fun k => k = b0) wB b0 en dp (okE w) (effP en ts) w e w' := by
 have htl := hts.lenL
 have hR := Fr.refl (fun k => k = b0) w
 have hB := hB0
 refine At.enter (N := 14) Try.func44 rfl rfl (by simp) [(0, .pointer (some ⟨b0, 0, none⟩))] (by simp) ?_
 refine .seq (.region ?_)
 refine At.box rfl rfl (fun b1 w1 F1 => ?_)
 have n_b0_b1 : b0 ≠ b1 := Nat.ne_of_lt (F1.lt hb0)
 have gb1 := Nat.le_trans hR.size (Nat.le_of_eq F1.eq.symm)
 replace hb0 := F1.old hb0
 have hb1 : w1.heap[b1]? = some (.cells #[.pointer (some ⟨b0, 0, none⟩)] 77) := F1.new
 replace hR := hR.freshF F1
 replace hB := Fr.below hR hB0 hB0.size hSge
 refine At.alloc ze55 rfl (fun b2 w2 F2 => ?_)
 have n_b0_b2 : b0 ≠ b2 := Nat.ne_of_lt (F2.lt hb0)
 have n_b1_b2 : b1 ≠ b2 := Nat.ne_of_lt (F2.lt hb1)
 have gb2 := Nat.le_trans hR.size (Nat.le_of_eq F2.eq.symm)
 replace hb0 := F2.old hb0
 replace hb1 := F2.old hb1
 have hb2 : w2.heap[b2]? = some (.cells #[zS, zN] 55) := F2.new
 replace hR := hR.freshF F2
 replace hB := Fr.below hR hB0 hB0.size hSge
 refine .ops0 (.thenN (.seq (.region (.load rfl (Ld.ownCell ag77 hb1 rfl) rfl ?_))))
 refine At.buildSlice (xs := [.const (.string (⟨#[101, 102, 102, 101, 99, 116]⟩ : ByteArray))]) rfl rfl el29 sz9 ze9 (by intro v hv; simp only [List.mem_cons, List.not_mem_nil, or_false] at hv; rcases hv with rfl <;> first | rfl | simp [Value.cells]) rfl (by decide) rfl (fun b3 w3 F3 => ?_)
 have n_b0_b3 : b0 ≠ b3 := Nat.ne_of_lt (F3.lt hb0)
 have n_b1_b3 : b1 ≠ b3 := Nat.ne_of_lt (F3.lt hb1)
 have n_b2_b3 : b2 ≠ b3 := Nat.ne_of_lt (F3.lt hb2)
 have gb3 := Nat.le_trans hR.size (Nat.le_of_eq F3.eq.symm)
 replace hb0 := F3.old hb0
 replace hb1 := F3.old hb1
 replace hb2 := F3.old hb2
 have hb3 : w3.heap[b3]? = some (.cells #[.string (⟨#[101, 102, 102, 101, 99, 116]⟩ : ByteArray)] 9) := F3.new
 replace hR := hR.freshF F3
 replace hB := Fr.below hR hB0 hB0.size hSge
 refine At.callP en65 rfl rfl (ptext_any ts v (.slice (some ⟨b3, 0, none⟩) 1 1) ([(⟨#[101, 102, 102, 101, 99, 116]⟩ : ByteArray)]) _ hB hSge hts hb0 ((StrsAt.own (ss := [(⟨#[101, 102, 102, 101, 99, 116]⟩ : ByteArray)]) hb3 rfl (by decide) : StrsAt _ (.slice (some ⟨b3, 0, none⟩) 1 1) [(⟨#[101, 102, 102, 101, 99, 116]⟩ : ByteArray)])) (fun _ => show b3 ≠ b0 from n_b0_b3.symm)) (fun e wp1 hR' => ?_)
 rcases hR'.cases.symm with ⟨ba, bc, hq1, rfl, hF1, hbb⟩ | ⟨x1, us1, val1, vr1, hq1, rfl, hF1, hts1, hbo1, ho1⟩
 ·exact .inr ⟨_, rfl, (Pk.then (Pk.body (RetP.bad (by simp only [effP, opP_eq, SB, hq1] <;> rfl) (Fr.then hR hF1 (fun k hk => .inl hk)) hbb)))⟩
 refine .inl ⟨_, rfl, ?_⟩
 replace hb1 := Fr.oldB hF1 hb1 (n_b0_b1.symm)
 replace hb2 := Fr.oldB hF1 hb2 (n_b0_b2.symm)
 replace hb3 := Fr.oldB hF1 hb3 (n_b0_b3.symm)
 replace hb0 := hbo1
 have hsz1 := hR.size
 replace hR := Fr.then hR hF1 (fun k hk => .inl hk)
 replace hB := Fr.below hR hB0 hB0.size hSge
 obtain rfl := ho1
 refine .ops0 (.thenN (.seq (.region (.load rfl (Ld.ownCell ag77 hb1 rfl) rfl ?_))))
 refine At.callP en66 rfl rfl (word_any us1 vr1 3 _ hB hSge hts1 hb0 (by decide)) (fun e wp2 hR' => ?_)
 rcases hR'.cases.symm with ⟨ba, bc, hq2, rfl, hF2, hbb⟩ | ⟨x2, us2, val2, vr2, hq2, rfl, hF2, hts2, hbo2, ho2⟩
 ·exact .inr ⟨_, rfl, (Pk.then (Pk.body (RetP.bad (by simp only [effP, opP_eq, SB, hq1, hq2] <;> rfl) (Fr.then hR hF2 (fun k hk => .inl hk)) hbb)))⟩
 refine .inl ⟨_, rfl, ?_⟩
 replace hb1 := Fr.oldB hF2 hb1 (n_b0_b1.symm)
 replace hb2 := Fr.oldB hF2 hb2 (n_b0_b2.symm)
 replace hb3 := Fr.oldB hF2 hb3 (n_b0_b3.symm)
 replace hb0 := hbo2
 have hsz2 := hR.size
 replace hR := Fr.then hR hF2 (fun k hk => .inl hk)
 replace hB := Fr.below hR hB0 hB0.size hSge
 obtain rfl := ho2
 refine .fieldC rfl ft47_1 ag9 (((tk_ok x2)).c1) rfl (.fieldAddr rfl fo55_0 rfl ?_)
 refine At.store1 rfl rfl hb2 sz9 (by simp) rfl (fun w4 S1 => ?_)
 replace hb0 := S1.other hb0 n_b0_b2
 replace hb1 := S1.other hb1 n_b1_b2
 replace hb3 := S1.other hb3 n_b2_b3.symm
 replace hb2 : w4.heap[b2]? = some (.cells #[.string (bs x2.t), zN] 55) := S1.new
 replace hR := hR.setF S1 (.inr gb2)
 replace hB := Fr.below hR hB0 hB0.size hSge
 refine .ops0 (.thenN (.seq (.region (.load rfl (Ld.ownCell ag77 hb1 rfl) rfl (.makeFunc rfl rfl ?_)))))
 have hml3 : MLt w4.heap.size [some b0, some b1, some b2, some b3] := (MLt.blk hb0 (MLt.blk hb1 (MLt.blk hb2 (MLt.blk hb3 (MLt.nil _)))))
 have hsz3 := hR.size
 have hsy3 : us2.length ≤ ts.length := Nat.le_trans (Nat.le_of_lt (PR.Sh.of (word_sh en 3 (by decide) _) hq2)) (Nat.le_of_lt (PR.Sh.of (text_sh en _ [] _) hq1))
 refine At.callP en67 rfl rfl (grow_list kOp 57 13 Op.cs rOp [some b0, some b1, some b2, some b3] (fun v => #[.string (bs x2.t), v]) b2 55 b1 us2 vr2 (⟨#[123]⟩ : ByteArray) (⟨#[59]⟩ : ByteArray) (⟨#[125]⟩ : ByteArray) (op1P en) 68 _ hB hSge hts2 hb0 en68 [.pointer (some ⟨b1, 0, none⟩), .pointer (some ⟨b2, 0, none⟩)] rfl rfl rfl hml3 (Nat.le_trans hB0.size gb2) hb2 hb1 (fun _ _ _ _ _ h => h) (op1_sh en) (fun us vr v es w1 h1 h2 h3 h4 h5 h6 h7 h8 h9 h10 h11 => effect1_any us vr [some b0, some b1, some b2, some b3] b2 b1 v es (bs x2.t) w1 h1 h2 h3 h4 h5 h6 h7 h8 h9 (by omega) h11)) (fun e wp3 hR' => ?_)
 rcases hR'.cases.symm with ⟨ba, bc, hq3, rfl, hF3, hbb⟩ | ⟨x3, us3, val, vr3, hq3, rfl, hF3, hts3, hbo3, ho3⟩
 ·exact .inr ⟨_, rfl, (Pk.then (Pk.body (RetP.bad (by simp only [effP, opP_eq, SB, hq1, hq2, hq3] <;> rfl) (Fr.then hR hF3 (fun k hk => hk.elim .inl (fun e => .inr (e ▸ gb2)))) hbb)))⟩
 refine .inl ⟨_, rfl, ?_⟩
 obtain ⟨rfl, _, vg3, es3, hbx3, hO_3, gO_3, hX_3, hA_3, hlen3, hbp3, hsw3, hnx3⟩ := ho3
 replace gO_3 : ∀ g, Value.ownBlock vg3 = some g → w.heap.size ≤ g := fun g hg => Nat.le_trans hsz3 (gO_3 g hg)
 replace hb1 := hF3.old _ _ (fun hk => hk.elim (fun e => n_b0_b1 e.symm) (fun e => n_b1_b2.symm e.symm)) hb1
 replace hb3 := hF3.old _ _ (fun hk => hk.elim (fun e => n_b0_b3 e.symm) (fun e => n_b2_b3 e.symm)) hb3
 replace hb0 := hbo3
 have hb2 := hbx3
 replace hR := Fr.then hR hF3 (fun k hk => hk.elim .inl (fun e => .inr (e ▸ gb2)))
 replace hB := Fr.below hR hB0 hB0.size hSge
 replace hb2 : wp3.heap[b2]? = some (.cells #[.string (bs x2.t), vg3] 55) := hb2
 refine .ops0 (.thenN (.seq (.region (.load rfl (Ld.own (C := #[.string (bs x2.t), vg3]) ag55 sz55 hb2) rfl ?_))))
 refine At.storeAll rfl rfl hb2 sz55 rfl (by first | (simp [Value.oneCell', (hO_3).one]; done) | (simp only [List.all_toArray, List.all_cons, List.all_nil, (hO_3).one, Bool.and_true, Bool.true_and]; rfl)) (fun w5 S2 => ?_)
 replace hb0 := S2.other hb0 n_b0_b2
 replace hb1 := S2.other hb1 n_b1_b2
 replace hb3 := S2.other hb3 n_b2_b3.symm
 replace hO_3 := hO_3.set S2 (hO_3.neT hb2 rfl)
 replace hX_3 := Xs.set hX_3 S2 (by simp)
 replace hb2 : w5.heap[b2]? = some (.cells #[.string (bs x2.t), vg3] 55) := S2.new
 replace hR := hR.setF S2 (.inr gb2)
 replace hB := Fr.below hR hB0 hB0.size hSge
 refine .ops0 (.thenN (.retc (.doneR (ResV.cell rfl (Ld.own (C := #[.string (bs x2.t), vg3]) ag55 sz55 hb2) ResV.nil) ?_)))
 exact RetP.ok (x := (⟨(bs x2.t), x3⟩ : SEff)) (by simp only [effP, opP_eq, SB, hq1, hq2, hq3] <;> rfl) hR hts3 hb0 ⟨(ownEff (bs x2.t) vg3 es3), rfl, ownEff_ok (OwnR.rows hO_3 (fun u hu => (((Xs.ok hX_3)) u hu).size)) (Xs.ok hX_3), by rw [shEff, ownEff]; simp only [All2.map hA_3], fun b hb => by obtain ⟨h1, rfl⟩ := hb; exact OwnR.vbGe hO_3 gO_3 h1⟩
theorem data_any {wB : World} {b0 : Nat} {en dp : Int} (ts : List Tk) (v : Value) (w : World) (hB0 : Below wB.heap.size wB w) (hSge : ∀ k, k = b0 → wB.heap.size ≤ k) (hts : RowsAt wB v 4 (ts.map Tk.cs)) (hb0 : w.heap[b0]? = some (.cells #[v, .int .i64 en, .int .i64 dp] 81)) (hbig : ts.length ≤ 100000000) :
  Calls Try.prog 45 ([.pointer (some ⟨b0, 0, none⟩)] : List Value).toArray w fun e w' => RetP (fun k => k = b0) wB b0 en dp (okD w) (datP en ts) w e w' := by
 have htl := hts.lenL
 have hR := Fr.refl (fun k => k = b0) w
 have hB := hB0
 refine At.enter (N := 14) Try.func45 rfl rfl (by simp) [(0, .pointer (some ⟨b0, 0, none⟩))] (by simp) ?_
 refine .seq (.region ?_)
 refine At.box rfl rfl (fun b1 w1 F1 => ?_)
 have n_b0_b1 : b0 ≠ b1 := Nat.ne_of_lt (F1.lt hb0)
 have gb1 := Nat.le_trans hR.size (Nat.le_of_eq F1.eq.symm)
 replace hb0 := F1.old hb0
 have hb1 : w1.heap[b1]? = some (.cells #[.pointer (some ⟨b0, 0, none⟩)] 77) := F1.new
 replace hR := hR.freshF F1
 replace hB := Fr.below hR hB0 hB0.size hSge
 refine At.alloc ze66 rfl (fun b2 w2 F2 => ?_)
 have n_b0_b2 : b0 ≠ b2 := Nat.ne_of_lt (F2.lt hb0)
 have n_b1_b2 : b1 ≠ b2 := Nat.ne_of_lt (F2.lt hb1)
 have gb2 := Nat.le_trans hR.size (Nat.le_of_eq F2.eq.symm)
 replace hb0 := F2.old hb0
 replace hb1 := F2.old hb1
 have hb2 : w2.heap[b2]? = some (.cells #[zS, zN] 66) := F2.new
 replace hR := hR.freshF F2
 replace hB := Fr.below hR hB0 hB0.size hSge
 refine .ops0 (.thenN (.seq (.region (.load rfl (Ld.ownCell ag77 hb1 rfl) rfl ?_))))
 refine At.buildSlice (xs := [.const (.string (⟨#[100, 97, 116, 97]⟩ : ByteArray))]) rfl rfl el29 sz9 ze9 (by intro v hv; simp only [List.mem_cons, List.not_mem_nil, or_false] at hv; rcases hv with rfl <;> first | rfl | simp [Value.cells]) rfl (by decide) rfl (fun b3 w3 F3 => ?_)
 have n_b0_b3 : b0 ≠ b3 := Nat.ne_of_lt (F3.lt hb0)
 have n_b1_b3 : b1 ≠ b3 := Nat.ne_of_lt (F3.lt hb1)
 have n_b2_b3 : b2 ≠ b3 := Nat.ne_of_lt (F3.lt hb2)
 have gb3 := Nat.le_trans hR.size (Nat.le_of_eq F3.eq.symm)
 replace hb0 := F3.old hb0
 replace hb1 := F3.old hb1
 replace hb2 := F3.old hb2
 have hb3 : w3.heap[b3]? = some (.cells #[.string (⟨#[100, 97, 116, 97]⟩ : ByteArray)] 9) := F3.new
 replace hR := hR.freshF F3
 replace hB := Fr.below hR hB0 hB0.size hSge
 refine At.callP en65 rfl rfl (ptext_any ts v (.slice (some ⟨b3, 0, none⟩) 1 1) ([(⟨#[100, 97, 116, 97]⟩ : ByteArray)]) _ hB hSge hts hb0 ((StrsAt.own (ss := [(⟨#[100, 97, 116, 97]⟩ : ByteArray)]) hb3 rfl (by decide) : StrsAt _ (.slice (some ⟨b3, 0, none⟩) 1 1) [(⟨#[100, 97, 116, 97]⟩ : ByteArray)])) (fun _ => show b3 ≠ b0 from n_b0_b3.symm)) (fun e wp1 hR' => ?_)
 rcases hR'.cases.symm with ⟨ba, bc, hq1, rfl, hF1, hbb⟩ | ⟨x1, us1, val1, vr1, hq1, rfl, hF1, hts1, hbo1, ho1⟩
 ·exact .inr ⟨_, rfl, (Pk.then (Pk.body (RetP.bad (by simp only [datP, cnP_eq, SB, hq1] <;> rfl) (Fr.then hR hF1 (fun k hk => .inl hk)) hbb)))⟩
 refine .inl ⟨_, rfl, ?_⟩
 replace hb1 := Fr.oldB hF1 hb1 (n_b0_b1.symm)
 replace hb2 := Fr.oldB hF1 hb2 (n_b0_b2.symm)
 replace hb3 := Fr.oldB hF1 hb3 (n_b0_b3.symm)
 replace hb0 := hbo1
 have hsz1 := hR.size
 replace hR := Fr.then hR hF1 (fun k hk => .inl hk)
 replace hB := Fr.below hR hB0 hB0.size hSge
 obtain rfl := ho1
 refine .ops0 (.thenN (.seq (.region (.load rfl (Ld.ownCell ag77 hb1 rfl) rfl ?_))))
 refine At.callP en66 rfl rfl (word_any us1 vr1 3 _ hB hSge hts1 hb0 (by decide)) (fun e wp2 hR' => ?_)
 rcases hR'.cases.symm with ⟨ba, bc, hq2, rfl, hF2, hbb⟩ | ⟨x2, us2, val2, vr2, hq2, rfl, hF2, hts2, hbo2, ho2⟩
 ·exact .inr ⟨_, rfl, (Pk.then (Pk.body (RetP.bad (by simp only [datP, cnP_eq, SB, hq1, hq2] <;> rfl) (Fr.then hR hF2 (fun k hk => .inl hk)) hbb)))⟩
 refine .inl ⟨_, rfl, ?_⟩
 replace hb1 := Fr.oldB hF2 hb1 (n_b0_b1.symm)
 replace hb2 := Fr.oldB hF2 hb2 (n_b0_b2.symm)
 replace hb3 := Fr.oldB hF2 hb3 (n_b0_b3.symm)
 replace hb0 := hbo2
 have hsz2 := hR.size
 replace hR := Fr.then hR hF2 (fun k hk => .inl hk)
 replace hB := Fr.below hR hB0 hB0.size hSge
 obtain rfl := ho2
 refine .fieldC rfl ft47_1 ag9 (((tk_ok x2)).c1) rfl (.fieldAddr rfl fo66_0 rfl ?_)
 refine At.store1 rfl rfl hb2 sz9 (by simp) rfl (fun w4 S1 => ?_)
 replace hb0 := S1.other hb0 n_b0_b2
 replace hb1 := S1.other hb1 n_b1_b2
 replace hb3 := S1.other hb3 n_b2_b3.symm
 replace hb2 : w4.heap[b2]? = some (.cells #[.string (bs x2.t), zN] 66) := S1.new
 replace hR := hR.setF S1 (.inr gb2)
 replace hB := Fr.below hR hB0 hB0.size hSge
 refine .ops0 (.thenN (.seq (.region (.load rfl (Ld.ownCell ag77 hb1 rfl) rfl (.makeFunc rfl rfl ?_)))))
 have hml3 : MLt w4.heap.size [some b0, some b1, some b2, some b3] := (MLt.blk hb0 (MLt.blk hb1 (MLt.blk hb2 (MLt.blk hb3 (MLt.nil _)))))
 have hsz3 := hR.size
 have hsy3 : us2.length ≤ ts.length := Nat.le_trans (Nat.le_of_lt (PR.Sh.of (word_sh en 3 (by decide) _) hq2)) (Nat.le_of_lt (PR.Sh.of (text_sh en _ [] _) hq1))
 refine At.callP en67 rfl rfl (grow_list kCn 68 2 Cn.cs rCn [some b0, some b1, some b2, some b3] (fun v => #[.string (bs x2.t), v]) b2 66 b1 us2 vr2 (⟨#[123]⟩ : ByteArray) (⟨#[59]⟩ : ByteArray) (⟨#[125]⟩ : ByteArray) (cn1P en) 70 _ hB hSge hts2 hb0 en70 [.pointer (some ⟨b1, 0, none⟩), .pointer (some ⟨b2, 0, none⟩)] rfl rfl rfl hml3 (Nat.le_trans hB0.size gb2) hb2 hb1 (fun _ _ _ _ hs h => rCn_mono hs h) (cn1_sh en) (fun us vr v es w1 h1 h2 h3 h4 h5 h6 h7 h8 h9 h10 h11 => data1_any us vr [some b0, some b1, some b2, some b3] b2 b1 v es (bs x2.t) w1 h1 h2 h3 h4 h5 h6 h7 h8 h9 (by omega) h11)) (fun e wp3 hR' => ?_)
 rcases hR'.cases.symm with ⟨ba, bc, hq3, rfl, hF3, hbb⟩ | ⟨x3, us3, val, vr3, hq3, rfl, hF3, hts3, hbo3, ho3⟩
 ·exact .inr ⟨_, rfl, (Pk.then (Pk.body (RetP.bad (by simp only [datP, cnP_eq, SB, hq1, hq2, hq3] <;> rfl) (Fr.then hR hF3 (fun k hk => hk.elim .inl (fun e => .inr (e ▸ gb2)))) hbb)))⟩
 refine .inl ⟨_, rfl, ?_⟩
 obtain ⟨rfl, _, vg3, es3, hbx3, hO_3, gO_3, hX_3, hA_3, hlen3, hbp3, hsw3, hnx3⟩ := ho3
 replace gO_3 : ∀ g, Value.ownBlock vg3 = some g → w.heap.size ≤ g := fun g hg => Nat.le_trans hsz3 (gO_3 g hg)
 replace hb1 := hF3.old _ _ (fun hk => hk.elim (fun e => n_b0_b1 e.symm) (fun e => n_b1_b2.symm e.symm)) hb1
 replace hb3 := hF3.old _ _ (fun hk => hk.elim (fun e => n_b0_b3 e.symm) (fun e => n_b2_b3 e.symm)) hb3
 replace hb0 := hbo3
 have hb2 := hbx3
 replace hR := Fr.then hR hF3 (fun k hk => hk.elim .inl (fun e => .inr (e ▸ gb2)))
 replace hB := Fr.below hR hB0 hB0.size hSge
 replace hb2 : wp3.heap[b2]? = some (.cells #[.string (bs x2.t), vg3] 66) := hb2
 refine .ops0 (.thenN (.seq (.region (.load rfl (Ld.own (C := #[.string (bs x2.t), vg3]) ag66 sz66 hb2) rfl ?_))))
 refine At.storeAll rfl rfl hb2 sz66 rfl (by first | (simp [Value.oneCell', (hO_3).one]; done) | (simp only [List.all_toArray, List.all_cons, List.all_nil, (hO_3).one, Bool.and_true, Bool.true_and]; rfl)) (fun w5 S2 => ?_)
 replace hb0 := S2.other hb0 n_b0_b2
 replace hb1 := S2.other hb1 n_b1_b2
 replace hb3 := S2.other hb3 n_b2_b3.symm
 replace hO_3 := hO_3.set S2 (hO_3.neT hb2 rfl)
 replace hX_3 := Xs.set hX_3 S2 (by simp)
 replace hb2 : w5.heap[b2]? = some (.cells #[.string (bs x2.t), vg3] 66) := S2.new
 replace hR := hR.setF S2 (.inr gb2)
 replace hB := Fr.below hR hB0 hB0.size hSge
 refine .ops0 (.thenN (.retc (.doneR (ResV.cell rfl (Ld.own (C := #[.string (bs x2.t), vg3]) ag66 sz66 hb2) ResV.nil) ?_)))
 exact RetP.ok (x := (⟨(bs x2.t), x3⟩ : SDat)) (by simp only [datP, cnP_eq, SB, hq1, hq2, hq3] <;> rfl) hR hts3 hb0 ⟨(ownDat (bs x2.t) vg3 es3), rfl, ownDat_ok (OwnR.rows hO_3 (fun u hu => (((Xs.ok hX_3)) u hu).size)) (Xs.ok hX_3), by rw [shDat, ownDat]; simp only [All2.map (All2.mono hA_3 (fun x t h => h.1))], fun b hb => by rcases hb with ⟨h1, rfl⟩ | ⟨c, hc, h2⟩; exact OwnR.vbGe hO_3 gO_3 h1; exact Nat.le_trans hsz3 (All2.all hA_3 (fun x t h => h.2) c hc b h2)⟩
end Go.Proofs.Ytkjmjnddanhapaa
