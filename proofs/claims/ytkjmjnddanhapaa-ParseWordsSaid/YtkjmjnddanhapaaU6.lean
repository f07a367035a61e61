/-
 The walks of what stands ahead of an application, of the levels of operators. Written by a program of ours.
-/
import Derived.Test.YtkjmjnddanhapaaN6
set_option linter.unusedVariables false
set_option linter.unusedSimpArgs false
namespace Go.Proofs.Ytkjmjnddanhapaa
open Go.RowKit
theorem by47 : bytesB Try.prog 47 = some 40 := by kernel_rfl
theorem en100 : entB Try.prog 100 = true := by kernel_rfl
theorem en101 : entB Try.prog 101 = true := by kernel_rfl
theorem en103 : entB Try.prog 103 = true := by kernel_rfl
theorem en104 : entB Try.prog 104 = true := by kernel_rfl
theorem en105 : entB Try.prog 105 = true := by kernel_rfl
theorem en107 : entB Try.prog 107 = true := by kernel_rfl
theorem en88 : entB Try.prog 88 = true := by kernel_rfl
theorem en89 : entB Try.prog 89 = true := by kernel_rfl
theorem en96 : entB Try.prog 96 = true := by kernel_rfl
theorem back1_any (l bs n : Nat) (S : Nat → Prop) (v : Value) (ts : List Tk) (J Jx : List (Int × Tk) → World → Prop) (w : World)
  (hY : ∀ pre x W, J pre W → pre.length < ts.length → YieldAt Fence.wide (n - 1) Try.prog l #[.int .i64 x.1, .agg x.2.cs] W fun e W' => (e = .returned (.bool true) ∧ J (pre ++ [x]) W' ∧ Fr S W W') ∨ (e = .returned (.bool false) ∧ Jx (pre ++ [x]) W'))
  (hbs : w.heap[bs]? = some (.cells #[v] 43)) (hbn : ¬ S bs) (hv : RowsAt w v 4 (ts.map Tk.cs)) (hvn : ts ≠ [] → ¬ S (vBlock v)) (h0 : J [] w) :
  CallsIn Fence.wide n Try.prog 107 ([.func (.yield l) #[] #[], .pointer (some ⟨bs, 0, none⟩)] : List Value).toArray w fun e W' => (∃ v, e = .returned v) ∧ ((∃ xs, xs.map Prod.snd = ts.reverse ∧ J xs W') ∨ ∃ pre, Jx pre W') := by
 have hlen := hv.lenL
 have hR := Fr.refl S w
 refine AtI.enter (N := 19) (.inl rfl) rfl Try.func107 rfl rfl (by simp) [(0, .func (.yield l) #[] #[]), (1, .pointer (some ⟨bs, 0, none⟩))] (by simp) ?_
 refine AtI.seq ?_
 refine AtI.region (.inl rfl) (nl_then (own_out (fun w h => by obtain ⟨⟨v, h⟩, _⟩ := h; cases h))) rfl ?_
 refine .load rfl (Ld.ownCell ag43 hbs rfl) rfl (.lenSl rfl hv.okL el43 rfl (.subI rfl rfl rfl (by first | omega | (simp; omega)) (.assign rfl rfl (.ops0 (.thenN ?_)))))
 refine AtI.block ?_
 refine AtI.loop (Nat × List (Int × Tk)) (fun (k, pre) => [(0, .func (.yield l) #[] #[]), (1, .pointer (some ⟨bs, 0, none⟩)), (3, .int .i64 ((ts.length : Int) - 1 - (k : Int)))]) (fun (k, pre) w1 => Fr S w w1 ∧ w1.heap[bs]? = some (.cells #[v] 43) ∧ RowsAt w1 v 4 (ts.map Tk.cs) ∧ J pre w1 ∧ (k ≤ ts.length) ∧ (pre.map Prod.snd = ts.reverse.take k) ∧ (pre.length = k)) (fun (k, pre) => ts.length - k) (0, []) (Sub.cons rfl (Sub.cons rfl (Sub.cons (congrArg some (congrArg (Value.int .i64) (by simp))) Sub.nil))) ⟨hR, hbs, hv, h0, (Nat.zero_le _), (rfl), (rfl)⟩ (fun gh w1 hI => ?_)
 obtain ⟨k, pre⟩ := gh
 clear hR hbs
 obtain ⟨hR, hbs, hv, hJ, hkb, hmap, hpl⟩ := hI
 show At _ _ [(0, .func (.yield l) #[] #[]), (1, .pointer (some ⟨bs, 0, none⟩)), (3, .int .i64 ((ts.length : Int) - 1 - (k : Int)))] _ _
 refine AtI.seq ?_
 refine AtI.seq ?_
 refine AtI.region (.inl rfl) (nl_then (nl_then (nl_then (nl_block (own_out (fun w h => by obtain ⟨⟨v, h⟩, _⟩ := h; cases h)))))) rfl ?_
 refine .move rfl rfl (.geq rfl rfl rfl (.ops0 (.thenN ?_)))
 refine AtI.cond (b := decide (0 ≤ ((ts.length : Int) - 1 - (k : Int)))) rfl (fun hc1 => ?_) (fun hc1 => ?_)
 ·skip
  have hc1' := of_decide_eq_true hc1
  refine AtI.skip ?_
  refine .thenN ?_
  refine AtI.seq ?_
  refine AtI.block ?_
  refine AtI.seq ?_
  refine .set (d := 3) (u := .int .i64 ((ts.length - 1 - k : Nat) : Int)) rfl (congrArg (Value.int .i64) (by omega)) ?_
  refine AtI.split (l1 := List.take 6 _) (l2 := List.drop 6 _) (List.take_append_drop 6 _).symm (.inl rfl) (nl_then (nl_block (nl_then (nl_then (nl_block (own_out (fun w h => by obtain ⟨⟨v, h⟩, _⟩ := h; cases h))))))) rfl ?_
  refine .move rfl rfl (.move rfl rfl (.load rfl (Ld.ownCell ag43 hbs rfl) rfl (.move rfl rfl ?_)))
  obtain ⟨u1, hu1⟩ := some_of_lt (l := ts) (i := (ts.length - 1 - k)) (by first | omega | (simp; omega))
  refine .indexAddr (i := (ts.length - 1 - k)) rfl rfl hv.okL (lt_of_some hu1) el43 sz47 rfl (.load rfl (Ld.row ag47 (sz47.trans (congrArg some ((tk_ok u1)).size.symm)) (((hv).row hu1).keep (Below.refl _ _))) rfl (.ops0 ?_))
  refine AtI.yield (.inl rfl) rfl rfl rfl (hY pre (((ts.length - 1 - k : Nat) : Int), u1) w1 hJ (by omega)) (fun e wy hq => ?_)
  rcases hq with ⟨rfl, hJ, hk⟩ | ⟨rfl, hJx⟩
  ·skip
   refine ⟨_, rfl, ?_⟩
   replace hbs := hk.old _ _ hbn hbs
   replace hv := RowsAt.frS hv (by decide) hk hvn
   replace hR := Fr.then hR hk (fun k hk => .inl hk)
   refine AtI.last (.inl rfl) (nl_then (nl_block (nl_then (nl_then (nl_block (own_out (fun w h => by obtain ⟨⟨v, h⟩, _⟩ := h; cases h))))))) rfl ?_
   refine .not rfl rfl (.ops0 (.thenN ?_))
   have hb : ((!true)) = false := rfl
   refine .set (d := 18) (u := .bool false) rfl (congrArg Value.bool hb) ?_
   refine AtI.condF rfl ?_
   refine AtI.skip ?_
   refine .inN (.thenN ?_)
   refine AtI.region (.inl rfl) (nl_then (nl_block (own_out (fun w h => by obtain ⟨⟨v, h⟩, _⟩ := h; cases h)))) rfl ?_
   refine .move rfl rfl (.subI rfl rfl rfl (by first | omega | (simp; omega)) (.assign rfl rfl (.ops0 (.thenN ?_))))
   exact fun act_ hact_ => ⟨((k + 1), (pre ++ [(((ts.length - 1 - k : Nat) : Int), u1)])), hact_.sub (Sub.cons rfl (Sub.cons rfl (Sub.cons (congrArg some (congrArg (Value.int .i64) (by omega))) Sub.nil))), ⟨hR, hbs, hv, hJ, (by omega), (by rw [List.map_append, hmap]; exact rev_snoc (by omega) hu1), (by simp [hpl])⟩, by first | omega | (dsimp only; omega)⟩
  ·skip
   refine ⟨_, rfl, ?_⟩
   refine AtI.last (.inl rfl) (nl_then (nl_block (nl_then (nl_then (nl_block (own_out (fun w h => by obtain ⟨⟨v, h⟩, _⟩ := h; cases h))))))) rfl ?_
   refine .not rfl rfl (.ops0 (.thenN ?_))
   have hb : ((!false)) = true := rfl
   refine .set (d := 18) (u := .bool true) rfl (congrArg Value.bool hb) ?_
   refine AtI.condT rfl ?_
   refine AtI.retc ?_
   refine .inR (.thenR (.thenR (.inR (.doneR (ResV.nil) ?_))))
   exact ⟨⟨_, rfl⟩, .inr ⟨_, hJx⟩⟩
 ·skip
  have hc1' := of_decide_eq_false hc1
  refine AtI.exit ?_
  refine .thenE (.thenE (.inE (.doneN (ResV.nil) ?_)))
  exact ⟨⟨_, rfl⟩, .inl ⟨pre, by rw [hmap, List.take_of_length_le (by simp; omega)], hJ⟩⟩
theorem back_stops (bs n : Nat) (S : Nat → Prop) (v : Value) (ts : List Tk) (w : World) (hbs : w.heap[bs]? = some (.cells #[v] 43)) (hbn : ¬ S bs) (hv : RowsAt w v 4 (ts.map Tk.cs)) (hvn : ts ≠ [] → ¬ S (vBlock v)) :
  SeqStopsK Fence.wide n Try.prog 107 #[.pointer (some ⟨bs, 0, none⟩)] (fun x : Int × Tk => #[.int .i64 x.1, .agg x.2.cs]) (Fr S) (fun xs => xs.map Prod.snd = ts.reverse) (fun _ => True) ts.length w := fun l J Jx W hW _ _ hY h0 =>
 (back1_any l bs n S v ts J Jx W hY (Below.old hW hbs) hbn (hv.keep hW) hvn h0).mono fun e W' ⟨he, h⟩ => ⟨he, h.imp id fun ⟨pre, h⟩ => ⟨pre, trivial, h⟩⟩
theorem backward_any (v : Value) (h1 : v.oneCell' = true) (w : World)  :
  Calls Try.prog 105 ([v] : List Value).toArray w fun e w' => ∃ bs, e = .returned (.func (.func 107) #[] #[.pointer (some ⟨bs, 0, none⟩)]) ∧ Below w.heap.size w w' ∧ w'.heap[bs]? = some (.cells #[v] 43) ∧ w.heap.size ≤ bs := by
 have hB := Below.refl w.heap.size w
 refine At.enter (N := 4) Try.func105 rfl rfl (by simp) [(0, v)] (by simp) ?_
 refine .seq (.region ?_)
 refine At.box rfl rfl (fun b1 w1 F1 => ?_)
 have gb1 := F1.ge hB
 have hb1 : w1.heap[b1]? = some (.cells #[v] 43) := cells_one h1 ▸ F1.new
 replace hB := F1.below' hB
 refine .assign rfl rfl (.ops0 (.thenN (.seq (.region (.makeFunc rfl rfl (.assign rfl rfl (.ops0 (.thenN (.retc (.doneR (ResV.tmp rfl ResV.nil) ?_))))))))))
 exact ⟨b1, rfl, hB, hb1, gb1⟩
theorem unary_any {wB : World} {b0 : Nat} {en dp : Int} (ts : List Tk) (v : Value) (ex : List Tk → PR ST) (w : World) (hB0 : Below wB.heap.size wB w) (hSge : ∀ k, k = b0 → wB.heap.size ≤ k) (hts : RowsAt wB v 4 (ts.map Tk.cs)) (hb0 : w.heap[b0]? = some (.cells #[v, .int .i64 en, .int .i64 dp] 81)) (hbig : ts.length ≤ 100000000) (hxs : ∀ ts, (ex ts).Sh ts.length) (hex : ExC en dp ex) :
  Calls Try.prog 103 ([.pointer (some ⟨b0, 0, none⟩)] : List Value).toArray w fun e w' => RetP (fun k => k = b0) wB b0 en dp (okT w) (unaryP en ex ts) w e w' := by
 have htl := hts.lenL
 have hR := Fr.refl (fun k => k = b0) w
 have hB := hB0
 refine At.enterM (n := 3) (N := 45) Try.func103 rfl rfl (by simp) [(0, .pointer (some ⟨b0, 0, none⟩))] (by simp) ?_
 refine .seq (.region ?_)
 refine At.alloc ze35 rfl (fun b1 w1 F1 => ?_)
 have n_b0_b1 : b0 ≠ b1 := Nat.ne_of_lt (F1.lt hb0)
 have gb1 := Nat.le_trans hR.size (Nat.le_of_eq F1.eq.symm)
 replace hb0 := F1.old hb0
 have hb1 : w1.heap[b1]? = some (.cells #[zI, zI, zS, zS, zI, zN, zN, zI, zS, zI, zN, zN, zI, zN, zI, zI, zS, zI, zN, zN, zI] 35) := F1.new
 replace hR := hR.freshF F1
 replace hB := Fr.below hR hB0 hB0.size hSge
 refine .ops0 (.thenN (.seq (.region (.assign rfl rfl (.ops0 (.thenN (.seq (.block ?_))))))))
 refine At.loop (List Tk × Value × Nat × Value × List Tk) (fun (us, vr, f, vl, lt) => [(0, .pointer (some ⟨b0, 0, none⟩)), (2, .pointer (some ⟨b1, 0, none⟩)), (3, vl)]) (fun (us, vr, f, vl, lt) w2 => Fr (fun k => k = b0) w w2 ∧ w2.heap[b0]? = some (.cells #[vr, .int .i64 en, .int .i64 dp] 81) ∧ w2.heap[b1]? = some (.cells #[zI, zI, zS, zS, zI, zN, zN, zI, zS, zI, zN, zN, zI, zN, zI, zI, zS, zI, zN, zN, zI] 35) ∧ OwnR 47 4 Tk.cs w2 vl lt ∧ (RowsAt wB vr 4 (us.map Tk.cs)) ∧ (unaryP en ex ts = (preP en f lt us).bind fun l ts => (appP en ex ts).bind fun x ts => .ok (l.foldr sUn x) ts) ∧ (us.length < f) ∧ (∀ g, Value.ownBlock vl = some g → w.heap.size ≤ g) ∧ (lt.length + us.length ≤ ts.length)) (fun (us, vr, f, vl, lt) => f) (ts, v, (ts.length + 1), zN, []) (Sub.cons rfl (Sub.cons rfl (Sub.cons rfl Sub.nil))) ⟨hR, hb0, hb1, OwnR.nil 47 4 Tk.cs _, (hts), (rfl), (Nat.lt_succ_self _), (fun g h => by cases h), (by simp)⟩ (fun gh w2 hI => ?_)
 obtain ⟨us, vr, f, vl, lt⟩ := gh
 clear hR hB hb0 hb1
 obtain ⟨hR, hb0, hb1, hOl, hus, hs, hfl, gOl, hln⟩ := hI
 have hB := Fr.below hR hB0 hB0.size hSge
 show At _ _ [(0, .pointer (some ⟨b0, 0, none⟩)), (2, .pointer (some ⟨b1, 0, none⟩)), (3, vl)] _ _
 refine .seq (.seq (.region (.move rfl rfl (.nilCheck rfl rfl (.fieldAddr rfl fo81_0 rfl ?_)))))
 refine At.buildSlice (xs := [.const (.string (⟨#[112, 114, 105, 110, 116]⟩ : ByteArray)), .const (.string (⟨#[114, 101, 102]⟩ : ByteArray)), .const (.string (⟨#[33]⟩ : ByteArray))]) rfl rfl el29 sz9 ze9 (by intro v hv; simp only [List.mem_cons, List.not_mem_nil, or_false] at hv; rcases hv with rfl | rfl | rfl <;> first | rfl | simp [Value.cells]) rfl (by decide) rfl (fun b2 w3 F2 => ?_)
 have n_b0_b2 : b0 ≠ b2 := Nat.ne_of_lt (F2.lt hb0)
 have n_b1_b2 : b1 ≠ b2 := Nat.ne_of_lt (F2.lt hb1)
 have gb2 := Nat.le_trans hR.size (Nat.le_of_eq F2.eq.symm)
 replace hb0 := F2.old hb0
 replace hb1 := F2.old hb1
 replace hOl := hOl.fresh F2
 have hb2 : w3.heap[b2]? = some (.cells #[.string (⟨#[112, 114, 105, 110, 116]⟩ : ByteArray), .string (⟨#[114, 101, 102]⟩ : ByteArray), .string (⟨#[33]⟩ : ByteArray)] 9) := F2.new
 replace hR := hR.freshF F2
 replace hB := Fr.below hR hB0 hB0.size hSge
 refine At.call en43 rfl rfl (is_any us vr (.slice (some ⟨b2, 0, none⟩) 3 3) ([(⟨#[112, 114, 105, 110, 116]⟩ : ByteArray), (⟨#[114, 101, 102]⟩ : ByteArray), (⟨#[33]⟩ : ByteArray)]) _ ((hus).keep hB) hb0 ((StrsAt.own (ss := [(⟨#[112, 114, 105, 110, 116]⟩ : ByteArray), (⟨#[114, 101, 102]⟩ : ByteArray), (⟨#[33]⟩ : ByteArray)]) hb2 rfl (by decide) : StrsAt _ (.slice (some ⟨b2, 0, none⟩) 3 3) [(⟨#[112, 114, 105, 110, 116]⟩ : ByteArray), (⟨#[114, 101, 102]⟩ : ByteArray), (⟨#[33]⟩ : ByteArray)]))) (fun e w4 hR' => ?_)
 obtain ⟨rfl, hbl1⟩ := hR'
 refine ⟨_, rfl, ?_⟩
 replace hb0 := Below.old hbl1 hb0
 replace hb1 := Below.old hbl1 hb1
 replace hb2 := Below.old hbl1 hb2
 replace hOl := hOl.below hbl1
 replace hR := hR.callF hbl1
 replace hB := Fr.below hR hB0 hB0.size hSge
 refine .move rfl rfl ?_
 refine At.cases ((isK en us ([(⟨#[112, 114, 105, 110, 116]⟩ : ByteArray), (⟨#[114, 101, 102]⟩ : ByteArray), (⟨#[33]⟩ : ByteArray)]))) (fun hg1 => ?_) (fun hg1 => ?_)
 ·skip
  refine .set (d := 13) (u := .bool true) rfl (congrArg Value.bool hg1) (.no rfl rfl rfl rfl rfl rfl rfl (.no rfl rfl rfl rfl rfl rfl rfl (.no rfl rfl rfl rfl rfl rfl rfl (.no rfl rfl rfl rfl rfl rfl rfl (.no rfl rfl rfl rfl rfl rfl rfl (.pickT rfl rfl rfl (.ops0 (.thenN (.condT rfl (.skip (.thenN (.block (.region (.move rfl rfl (.move rfl rfl (.nilCheck rfl rfl (.fieldAddr rfl fo81_0 rfl ?_)))))))))))))))))
  refine At.call en74 rfl rfl (ptake_any us vr _ hB hSge hus hb0 (is_len hg1)) (fun e wp1 hR' => ?_)
  obtain ⟨vr1, rfl, hts1, hbo1, hF1⟩ := hR'
  refine ⟨_, rfl, ?_⟩
  replace hb1 := Fr.oldB hF1 hb1 (n_b0_b1.symm)
  replace hb2 := Fr.oldB hF1 hb2 (n_b0_b2.symm)
  replace hOl := OwnR.frB hOl hF1 hb0 rfl
  replace hb0 := hbo1
  replace hR := Fr.then hR hF1 (fun k hk => .inl hk)
  replace hB := Fr.below hR hB0 hB0.size hSge
  refine At.buildSlice (xs := [.tmp 24]) rfl rfl el43 sz47 ze47 (by intro v hv; simp only [List.mem_cons, List.not_mem_nil, or_false] at hv; rcases hv with rfl <;> first | rfl | simp [Value.cells, ((tk_ok (nx en us))).size]) rfl (by decide) rfl (fun b3 w5 F3 => ?_)
  have q_hOl_b3 : some b3 ≠ Value.ownBlock vl := Own.neFresh hOl F3
  have n_b0_b3 : b0 ≠ b3 := Nat.ne_of_lt (F3.lt hb0)
  have n_b1_b3 : b1 ≠ b3 := Nat.ne_of_lt (F3.lt hb1)
  have n_b2_b3 : b2 ≠ b3 := Nat.ne_of_lt (F3.lt hb2)
  have gb3 := Nat.le_trans hR.size (Nat.le_of_eq F3.eq.symm)
  replace hb0 := F3.old hb0
  replace hb1 := F3.old hb1
  replace hb2 := F3.old hb2
  replace hOl := hOl.fresh F3
  have hb3 : w5.heap[b3]? = some (.cells (([(nx en us)].map Tk.cs).flatMap (·.toList)).toArray 47) := F3.new
  replace hR := hR.freshF F3
  replace hB := Fr.below hR hB0 hB0.size hSge
  refine At.appendR (f := Tk.cs) rfl rfl el43 el43 sz47 by47 ze47 rfl hOl (rows_own (f := Tk.cs) (m := 1) hb3 (fun u hu => ((mem1 (Q := fun u => TkOk u) (tk_ok (nx en us))) u hu).size) rfl (by decide)) (by decide) (fun u hu => (((mem1 (Q := fun u => TkOk u) (tk_ok (nx en us)))) u hu).one) (by first | omega | (simp; omega)) (by first | omega | (simp; omega)) rfl (fun va1 w6 hO1 hA1 => ?_)
  replace hO1 : OwnR 47 4 Tk.cs w6 va1 (lt ++ [(nx en us)]) := hO1
  replace hb0 := hA1.old hb0 (hOl.neT hb0 rfl)
  replace hb1 := hA1.old hb1 (hOl.neT hb1 rfl)
  replace hb2 := hA1.old hb2 (hOl.neT hb2 rfl)
  clear hb3
  have ghO1 := hA1.ge hR.size gOl
  replace hR := hR.appF hA1 (fun g hg => .inr (gOl g hg))
  replace hB := Fr.below hR hB0 hB0.size hSge
  refine .assign rfl rfl (.ops0 (.inN (.thenN ?_)))
  exact fun act_ hact_ => ⟨(us.tail, vr1, (f - 1), va1, (lt ++ [(nx en us)])), hact_.sub (Sub.cons rfl (Sub.cons rfl (Sub.cons rfl Sub.nil))), ⟨hR, hb0, hb1, hO1, (hts1), (by obtain ⟨q, rfl⟩ : ∃ q, f = q + 1 := ⟨f - 1, by omega⟩; rw [hs, preP]; simp only [preB', cond_true, hg1, Bool.true_or, Bool.or_true, Bool.false_or, Bool.or_false, PR.bind_ok]; rfl), (by have := hln; have := tail_len (is_len hg1); omega), (ghO1), (by have := hln; have := tail_len (is_len hg1); simp; omega)⟩, by first | omega | (dsimp only; omega)⟩
 ·skip
  refine .set (d := 13) (u := .bool false) rfl (congrArg Value.bool hg1) (.yes rfl rfl rfl rfl (.move rfl rfl (.yes rfl rfl rfl rfl (.nilCheck rfl rfl (.yes rfl rfl rfl rfl (.fieldAddr rfl fo81_0 rfl (.yes rfl rfl rfl rfl ?_)))))))
  refine At.buildSlice (xs := [.const (.int .i64 6)]) rfl rfl el48 sz3 ze3 (by intro v hv; simp only [List.mem_cons, List.not_mem_nil, or_false] at hv; rcases hv with rfl <;> first | rfl | simp [Value.cells]) rfl (by decide) rfl (fun b4 w7 F4 => ?_)
  have n_b0_b4 : b0 ≠ b4 := Nat.ne_of_lt (F4.lt hb0)
  have n_b1_b4 : b1 ≠ b4 := Nat.ne_of_lt (F4.lt hb1)
  have n_b2_b4 : b2 ≠ b4 := Nat.ne_of_lt (F4.lt hb2)
  have gb4 := Nat.le_trans hR.size (Nat.le_of_eq F4.eq.symm)
  replace hb0 := F4.old hb0
  replace hb1 := F4.old hb1
  replace hb2 := F4.old hb2
  replace hOl := hOl.fresh F4
  have hb4 : w7.heap[b4]? = some (.cells #[.int .i64 6] 3) := F4.new
  replace hR := hR.freshF F4
  replace hB := Fr.below hR hB0 hB0.size hSge
  refine .yes rfl rfl rfl rfl ?_
  refine At.call en71 rfl rfl (kind_any us vr (.slice (some ⟨b4, 0, none⟩) 1 1) ([6]) _ ((hus).keep hB) hb0 ((IntsAt.own (l := [6]) hb4 rfl (by decide) : IntsAt _ (.slice (some ⟨b4, 0, none⟩) 1 1) [6]))) (fun e w8 hR' => ?_)
  obtain ⟨rfl, hbl2⟩ := hR'
  refine ⟨_, rfl, ?_⟩
  replace hb0 := Below.old hbl2 hb0
  replace hb1 := Below.old hbl2 hb1
  replace hb2 := Below.old hbl2 hb2
  replace hb4 := Below.old hbl2 hb4
  replace hOl := hOl.below hbl2
  replace hR := hR.callF hbl2
  replace hB := Fr.below hR hB0 hB0.size hSge
  refine .pickF rfl rfl rfl (.ops0 (.thenN ?_))
  refine At.cond (b := (kdK en us ([6]))) rfl (fun hc1 => ?_) (fun hc1 => ?_)
  ·skip
   refine .skip (.thenN (.block (.region (.move rfl rfl (.move rfl rfl (.nilCheck rfl rfl (.fieldAddr rfl fo81_0 rfl ?_)))))))
   refine At.call en74 rfl rfl (ptake_any us vr _ hB hSge hus hb0 (kd_len hc1 (by simp))) (fun e wp2 hR' => ?_)
   obtain ⟨vr2, rfl, hts2, hbo2, hF2⟩ := hR'
   refine ⟨_, rfl, ?_⟩
   replace hb1 := Fr.oldB hF2 hb1 (n_b0_b1.symm)
   replace hb2 := Fr.oldB hF2 hb2 (n_b0_b2.symm)
   replace hb4 := Fr.oldB hF2 hb4 (n_b0_b4.symm)
   replace hOl := OwnR.frB hOl hF2 hb0 rfl
   replace hb0 := hbo2
   replace hR := Fr.then hR hF2 (fun k hk => .inl hk)
   replace hB := Fr.below hR hB0 hB0.size hSge
   refine At.buildSlice (xs := [.tmp 24]) rfl rfl el43 sz47 ze47 (by intro v hv; simp only [List.mem_cons, List.not_mem_nil, or_false] at hv; rcases hv with rfl <;> first | rfl | simp [Value.cells, ((tk_ok (nx en us))).size]) rfl (by decide) rfl (fun b5 w9 F5 => ?_)
   have q_hOl_b5 : some b5 ≠ Value.ownBlock vl := Own.neFresh hOl F5
   have n_b0_b5 : b0 ≠ b5 := Nat.ne_of_lt (F5.lt hb0)
   have n_b1_b5 : b1 ≠ b5 := Nat.ne_of_lt (F5.lt hb1)
   have n_b2_b5 : b2 ≠ b5 := Nat.ne_of_lt (F5.lt hb2)
   have n_b4_b5 : b4 ≠ b5 := Nat.ne_of_lt (F5.lt hb4)
   have gb5 := Nat.le_trans hR.size (Nat.le_of_eq F5.eq.symm)
   replace hb0 := F5.old hb0
   replace hb1 := F5.old hb1
   replace hb2 := F5.old hb2
   replace hb4 := F5.old hb4
   replace hOl := hOl.fresh F5
   have hb5 : w9.heap[b5]? = some (.cells (([(nx en us)].map Tk.cs).flatMap (·.toList)).toArray 47) := F5.new
   replace hR := hR.freshF F5
   replace hB := Fr.below hR hB0 hB0.size hSge
   refine At.appendR (f := Tk.cs) rfl rfl el43 el43 sz47 by47 ze47 rfl hOl (rows_own (f := Tk.cs) (m := 1) hb5 (fun u hu => ((mem1 (Q := fun u => TkOk u) (tk_ok (nx en us))) u hu).size) rfl (by decide)) (by decide) (fun u hu => (((mem1 (Q := fun u => TkOk u) (tk_ok (nx en us)))) u hu).one) (by first | omega | (simp; omega)) (by first | omega | (simp; omega)) rfl (fun va2 w10 hO2 hA2 => ?_)
   replace hO2 : OwnR 47 4 Tk.cs w10 va2 (lt ++ [(nx en us)]) := hO2
   replace hb0 := hA2.old hb0 (hOl.neT hb0 rfl)
   replace hb1 := hA2.old hb1 (hOl.neT hb1 rfl)
   replace hb2 := hA2.old hb2 (hOl.neT hb2 rfl)
   replace hb4 := hA2.old hb4 (hOl.neT hb4 rfl)
   clear hb5
   have ghO2 := hA2.ge hR.size gOl
   replace hR := hR.appF hA2 (fun g hg => .inr (gOl g hg))
   replace hB := Fr.below hR hB0 hB0.size hSge
   refine .assign rfl rfl (.ops0 (.inN (.thenN ?_)))
   exact fun act_ hact_ => ⟨(us.tail, vr2, (f - 1), va2, (lt ++ [(nx en us)])), hact_.sub (Sub.cons rfl (Sub.cons rfl (Sub.cons rfl Sub.nil))), ⟨hR, hb0, hb1, hO2, (hts2), (by obtain ⟨q, rfl⟩ : ∃ q, f = q + 1 := ⟨f - 1, by omega⟩; rw [hs, preP]; simp only [preB', cond_true, hg1, hc1, Bool.true_or, Bool.or_true, Bool.false_or, Bool.or_false, PR.bind_ok]; rfl), (by have := hln; have := tail_len (kd_len hc1 (by simp)); omega), (ghO2), (by have := hln; have := tail_len (kd_len hc1 (by simp)); simp; omega)⟩, by first | omega | (dsimp only; omega)⟩
  ·skip
   refine .exit (.thenE (.thenE (.inE (.thenN (.seq (.region (.move rfl rfl ?_)))))))
   have hml3 : MLt w8.heap.size [some b0, some b1, some b2, some b4, Value.ownBlock vl] := (MLt.blk hb0 (MLt.blk hb1 (MLt.blk hb2 (MLt.blk hb4 (MLt.own hOl (MLt.nil _))))))
   refine At.callP en104 rfl rfl (app_any us vr ex  _ hB hSge hus hb0 (by have hz := hbig; have := hln; omega) hxs hex) (fun e wp3 hR' => ?_)
   rcases hR'.cases.symm with ⟨ba, bc, hq3, rfl, hF3, hbb⟩ | ⟨x3, us3, val3, vr3, hq3, rfl, hF3, hts3, hbo3, ho3⟩
   ·exact .inr ⟨_, rfl, (Pk.then (Pk.bodyM (RetP.bad (by obtain ⟨q, rfl⟩ : ∃ q, f = q + 1 := ⟨f - 1, by omega⟩; rw [hs, preP]; simp only [preB', SB, hg1, hc1, hq3] <;> rfl) (Fr.then hR hF3 (fun k hk => .inl hk)) hbb)))⟩
   refine .inl ⟨_, rfl, ?_⟩
   replace hb1 := Fr.oldB hF3 hb1 (n_b0_b1.symm)
   replace hb2 := Fr.oldB hF3 hb2 (n_b0_b2.symm)
   replace hb4 := Fr.oldB hF3 hb4 (n_b0_b4.symm)
   replace hOl := OwnR.frB hOl hF3 hb0 rfl
   replace hb0 := hbo3
   have hsz3 := hR.size
   replace hR := Fr.then hR hF3 (fun k hk => .inl hk)
   replace hB := Fr.below hR hB0 hB0.size hSge
   obtain ⟨tm3, rfl, htm3, hmt3⟩ := ho3
   have hx3 := Xs.of_new (B := 0) (M := [some b0, some b1, some b2, some b4, Value.ownBlock vl]) (K := kTm) htm3 (fun b hb => .inr (hmt3.blk b hb)) (fun _ _ => Nat.zero_le _) hml3
   replace hmt3 := hmt3.mono hsz3
   refine At.alloc ze35 rfl (fun b6 w11 F6 => ?_)
   have n_b0_b6 : b0 ≠ b6 := Nat.ne_of_lt (F6.lt hb0)
   have n_b1_b6 : b1 ≠ b6 := Nat.ne_of_lt (F6.lt hb1)
   have n_b2_b6 : b2 ≠ b6 := Nat.ne_of_lt (F6.lt hb2)
   have n_b4_b6 : b4 ≠ b6 := Nat.ne_of_lt (F6.lt hb4)
   have gb6 := Nat.le_trans hR.size (Nat.le_of_eq F6.eq.symm)
   replace hb0 := F6.old hb0
   replace hb1 := F6.old hb1
   replace hb2 := F6.old hb2
   replace hb4 := F6.old hb4
   replace hOl := hOl.fresh F6
   replace hx3 := Xs.fresh hx3 F6
   have hb6 : w11.heap[b6]? = some (.cells #[zI, zI, zS, zS, zI, zN, zN, zI, zS, zI, zN, zN, zI, zN, zI, zI, zS, zI, zN, zN, zI] 35) := F6.new
   replace hR := hR.freshF F6
   replace hB := Fr.below hR hB0 hB0.size hSge
   refine At.storeAll rfl rfl hb6 (sz35.trans (congrArg some ((Xs.one hx3)).size.symm)) ((Xs.one hx3)).size.symm ((Xs.one hx3)).one (fun w12 S1 => ?_)
   replace hb0 := S1.other hb0 n_b0_b6
   replace hb1 := S1.other hb1 n_b1_b6
   replace hb2 := S1.other hb2 n_b2_b6
   replace hb4 := S1.other hb4 n_b4_b6
   replace hOl := hOl.set S1 (hOl.neT hb6 rfl)
   replace hx3 := Xs.set hx3 S1 (by simp)
   replace hb6 : w12.heap[b6]? = some (.cells tm3.cs 35) := S1.new
   replace hR := hR.setF S1 (.inr gb6)
   replace hB := Fr.below hR hB0 hB0.size hSge
   refine .ops0 (.thenN (.seq (.seq (.region (.move rfl rfl ?_)))))
   have hlt_b0 := (Array.getElem?_eq_some_iff.1 hb0).1
   have hlt_b1 := (Array.getElem?_eq_some_iff.1 hb1).1
   have hlt_b2 := (Array.getElem?_eq_some_iff.1 hb2).1
   have hlt_b4 := (Array.getElem?_eq_some_iff.1 hb4).1
   have hlt_b6 := (Array.getElem?_eq_some_iff.1 hb6).1
   have hszk := hR.size
   refine At.call en105 rfl rfl (backward_any vl ((hOl).one) _) (fun e wk1 hR' => ?_)
   obtain ⟨bk, rfl, hblk1, hbk, hgek⟩ := hR'
   refine ⟨_, rfl, ?_⟩
   replace hb0 := Below.old hblk1 hb0
   replace hb1 := Below.old hblk1 hb1
   replace hb2 := Below.old hblk1 hb2
   replace hb4 := Below.old hblk1 hb4
   replace hb6 := Below.old hblk1 hb6
   replace hOl := hOl.below hblk1
   replace hx3 := Xs.below hx3 hblk1
   replace hR := hR.callF hblk1
   replace hB := Fr.below hR hB0 hB0.size hSge
   have n_b0_bk : b0 ≠ bk := by omega
   have n_b1_bk : b1 ≠ bk := by omega
   have n_b2_bk : b2 ≠ bk := by omega
   have n_b4_bk : b4 ≠ bk := by omega
   have n_b6_bk : b6 ≠ bk := by omega
   have gbk : w.heap.size ≤ bk := Nat.le_trans hszk hgek
   refine .ops0 (.thenN (.block (.sub (L' := [(2, .pointer (some ⟨b1, 0, none⟩)), (4, .pointer (some ⟨b6, 0, none⟩)), (30, .func (.func 107) #[] #[.pointer (some ⟨bk, 0, none⟩)])]) (Sub.cons rfl (Sub.cons rfl (Sub.cons rfl Sub.nil))) ?_)))
   have hnb : ¬ (fun k => k = b6 ∨ wk1.heap.size ≤ k) bk := by have h := (Array.getElem?_eq_some_iff.1 hbk).1; rintro (e | e); exact n_b6_bk e.symm; omega
   have hnv : lt ≠ [] → ¬ (fun k => k = b6 ∨ wk1.heap.size ≤ k) (vBlock vl) := fun hn h => by have h1 := Own.vb hOl (fun e => hn (List.eq_nil_of_length_eq_zero e)); rcases h with h | h; exact OwnR.neT hOl hb6 rfl (by rw [h1, h]); have h2 := Own.lt hOl h1; omega
   have hsz0 := hR.size
   have hlz_b0 := (Array.getElem?_eq_some_iff.1 hb0).1
   have hlz_b1 := (Array.getElem?_eq_some_iff.1 hb1).1
   have hlz_b6 := (Array.getElem?_eq_some_iff.1 hb6).1
   refine At.rangeB (d6 := 6) (TK := 47) (S := (fun k => k = b6 ∨ wk1.heap.size ≤ k)) (ts := lt) rfl en107 rfl rfl (fun k hk => .inr hk) (back_stops bk 2 (fun k => k = b6 ∨ wk1.heap.size ≤ k) vl lt _ hbk hnb (OwnR.rows hOl (fun u hu => (((fun u _ => tk_ok u)) u hu).size)) hnv) (fun pre W => ∃ tx xs, W.heap[b6]? = some (.cells (Tm.cs tx) 35) ∧ Xs kTm [some b0, some b1, some b6] W [tx] ∧ MT w xs tx ∧ pre.foldl (fun x t => sUn t x) x3 = xs ∧ Fr (fun k => k = b0) w W ∧ wk1.heap.size ≤ W.heap.size ∧ W.heap[b0]? = some (.cells #[vr3, .int .i64 en, .int .i64 dp] 81) ∧ W.heap[b1]? = some (.cells #[zI, zI, zS, zS, zI, zN, zN, zI, zS, zI, zN, zN, zI, zN, zI, zI, zS, zI, zN, zN, zI] 35)) ?_ ⟨_, _, hb6, (Xs.weaken (M' := [some b0, some b1, some b6]) hx3 (SubM.cons (.tail _ (.head _)) (SubM.cons (.tail _ (.tail _ (.head _))) (SubM.cons (.head _) SubM.nil)))), hmt3, rfl, hR, Nat.le_refl _, hb0, hb1⟩ (fun l pre i t W hI => ?_) (fun pre W hI => by obtain ⟨tx, xs, i1, i2, i3, i4, i5, i6, i7, i8⟩ := hI; exact i6) (fun l pre t Bx W hI hBx hge => ?_) (fun D W hDge hI hD => ?_)
   ·skip
    rintro pre W W' row ⟨tx, xs, i1, i2, i3, i4, i5, i6, i7, i8⟩ hg hr
    exact ⟨tx, xs, cells_grown i1 hg (fun r e => (hr r e).2), Xs.grownC i2 hg (fun r e => (hr r e).2), i3, i4, Fr.grownG i5 hg (fun r e => Nat.le_trans hsz0 (hr r e).1), Nat.le_trans i6 hg.size, cells_grown i7 hg (fun r e => (hr r e).2), cells_grown i8 hg (fun r e => (hr r e).2)⟩
   ·skip
    obtain ⟨tx, xs, hb6, hxx, hmx, hfo, hRw, hsW, hb0, hb1⟩ := hI
    have hX0 := hb6
    have hR := Fr.refl (fun k => k = b6) W
    refine AtI.region (.inr ⟨_, rfl⟩) (fun _ _ h => by cases h.1) rfl ?_
    refine At.alloc ze47 rfl (fun b7 w13 F7 => ?_)
    have n_b0_b7 : b0 ≠ b7 := Nat.ne_of_lt (F7.lt hb0)
    have n_b1_b7 : b1 ≠ b7 := Nat.ne_of_lt (F7.lt hb1)
    have n_b6_b7 : b6 ≠ b7 := Nat.ne_of_lt (F7.lt hb6)
    have gb7 := Nat.le_trans hR.size (Nat.le_of_eq F7.eq.symm)
    replace hb0 := F7.old hb0
    replace hb1 := F7.old hb1
    replace hb6 := F7.old hb6
    replace hxx := Xs.fresh hxx F7
    have hb7 : w13.heap[b7]? = some (.cells #[zI, zS, zI, zI] 47) := F7.new
    replace hR := hR.freshF F7
    refine At.storeAll rfl rfl hb7 (sz47.trans (congrArg some ((tk_ok t)).size.symm)) ((tk_ok t)).size.symm ((tk_ok t)).one (fun w14 S2 => ?_)
    replace hb0 := S2.other hb0 n_b0_b7
    replace hb1 := S2.other hb1 n_b1_b7
    replace hb6 := S2.other hb6 n_b6_b7
    replace hxx := Xs.set hxx S2 (by simp)
    replace hb7 : w14.heap[b7]? = some (.cells t.cs 47) := S2.new
    replace hR := hR.setF S2 (.inr gb7)
    refine .ops0 ?_
    exact fun a ha => ⟨rfl, KeepsFrom.ofFr hR hX0, hR.weaken (fun k h => .inl h), ⟨tx, xs, hb6, (Xs.weaken (M' := [some b0, some b1, some b6]) hxx (SubM.cons (.tail _ (.head _)) (SubM.cons (.tail _ (.tail _ (.head _))) (SubM.cons (.tail _ (.tail _ (.tail _ (.head _)))) SubM.nil)))), hmx, hfo, Fr.then hRw hR (fun k e => .inr (e ▸ gb6)), Nat.le_trans hsW hR.size, hb0, hb1⟩, b7, ha.sub (Sub.cons rfl (Sub.cons rfl (Sub.cons rfl (Sub.cons rfl Sub.nil)))), hb7, gb7⟩
   ·skip
    obtain ⟨tx, xs, hb6, hxx, hmx, hfo, hRw, hsW, hb0, hb1⟩ := hI
    have hX0 := hb6
    have hR := Fr.refl (fun k => k = b6) W
    have hWs := hRw.size
    have n_b0_Bx : b0 ≠ Bx := by have := hlz_b0; omega
    have n_b1_Bx : b1 ≠ Bx := by have := hlz_b1; omega
    have n_b6_Bx : b6 ≠ Bx := by have := hlz_b6; omega
    refine AtI.block ?_
    refine AtI.seq ?_
    refine AtI.region (.inr ⟨_, rfl⟩) (nl_then (nl_block (fun _ _ h => by cases h.1))) rfl ?_
    refine .assign rfl rfl (.ops0 (.thenN ?_))
    refine AtI.seq ?_
    refine AtI.seq ?_
    refine AtI.region (.inr ⟨_, rfl⟩) (nl_then (nl_then (nl_block (fun _ _ h => by cases h.1)))) rfl ?_
    refine .fieldAddr rfl fo47_0 rfl (.load rfl (Ld.ownCell ag3 hBx ((tk_ok t)).c0) rfl (.eqI rfl rfl rfl (.ops0 (.thenN ?_))))
    refine AtI.cond (b := decide (t.k = 6)) rfl (fun hc2 => ?_) (fun hc2 => ?_)
    ·skip
     have hc2' := of_decide_eq_true hc2
     refine AtI.region (.inr ⟨_, rfl⟩) (nl_then (nl_block (fun _ _ h => by cases h.1))) rfl ?_
     refine .assign rfl rfl (.ops0 (.thenN ?_))
     refine AtI.region (.inr ⟨_, rfl⟩) (nl_block (fun _ _ h => by cases h.1)) rfl ?_
     refine .move rfl rfl (.fieldAddr rfl fo47_3 rfl (.load rfl (Ld.ownCell ag3 hBx ((tk_ok t)).c3) rfl (.fieldAddr rfl fo47_1 rfl (.load rfl (Ld.ownCell ag9 hBx ((tk_ok t)).c1) rfl (.load rfl (Ld.own ag35 (sz35.trans (congrArg some ((Xs.one hxx)).size.symm)) hb6) rfl ?_)))))
     refine At.buildSlice (xs := [.tmp 41]) rfl rfl el26 sz35 ze35 (by intro v hv; simp only [List.mem_cons, List.not_mem_nil, or_false] at hv; rcases hv with rfl <;> first | rfl | simp [Value.cells, ((Xs.one hxx)).size]) rfl (by decide) rfl (fun b8 w15 F8 => ?_)
     have n_b0_b8 : b0 ≠ b8 := Nat.ne_of_lt (F8.lt hb0)
     have n_b1_b8 : b1 ≠ b8 := Nat.ne_of_lt (F8.lt hb1)
     have n_b6_b8 : b6 ≠ b8 := Nat.ne_of_lt (F8.lt hb6)
     have n_Bx_b8 : Bx ≠ b8 := Nat.ne_of_lt (F8.lt hBx)
     have gb8 := Nat.le_trans hR.size (Nat.le_of_eq F8.eq.symm)
     replace hb0 := F8.old hb0
     replace hb1 := F8.old hb1
     replace hb6 := F8.old hb6
     replace hBx := F8.old hBx
     replace hxx := Xs.fresh hxx F8
     have hb8 : w15.heap[b8]? = some (.cells (([tx].map Tm.cs).flatMap (·.toList)).toArray 35) := F8.new
     replace hR := hR.freshF F8
     refine .build (C := #[.int .i64 13, .int .i64 t.a, .string (bs t.t), zS, zI, (.slice (some ⟨b8, 0, none⟩) 1 1), zN, zI, zS, zI, zN, zN, zI, zN, zI, zI, zS, zI, zN, zN, zI]) sd35 ze35 rfl (Bld.cons fo35_0 rfl (by first | decide | exact Nat.le_of_ble_eq_true rfl) (Bld.cons fo35_1 rfl (by first | decide | exact Nat.le_of_ble_eq_true rfl) (Bld.cons fo35_2 rfl (by first | decide | exact Nat.le_of_ble_eq_true rfl) (Bld.cons fo35_5 rfl (by first | decide | exact Nat.le_of_ble_eq_true rfl) (Bld.nil _))))) rfl ?_
     refine At.storeAll rfl rfl hb6 sz35 ((Xs.one hxx)).size (by first | (simp [Value.oneCell', ((SlOk.nil)).one]; done) | (simp only [List.all_toArray, List.all_cons, List.all_nil, ((SlOk.nil)).one, Bool.and_true, Bool.true_and]; rfl)) (fun w16 S3 => ?_)
     replace hb0 := S3.other hb0 n_b0_b6
     replace hb1 := S3.other hb1 n_b1_b6
     replace hBx := S3.other hBx n_b6_Bx.symm
     replace hb8 := S3.other hb8 n_b6_b8.symm
     replace hxx := Xs.set hxx S3 (by simp)
     replace hb6 : w16.heap[b6]? = some (.cells #[.int .i64 13, .int .i64 t.a, .string (bs t.t), zS, zI, (.slice (some ⟨b8, 0, none⟩) 1 1), zN, zI, zS, zI, zN, zN, zI, zN, zI, zI, zS, zI, zN, zN, zI] 35) := S3.new
     replace hR := hR.setF S3 (.inl rfl)
     refine .ops0 (.inN ?_)
     exact fun a ha => ⟨rfl, KeepsFrom.ofFr hR hX0, hR.weaken (fun k h => .inl h), ⟨(tmA 13 t.a (bs t.t) (⟨#[]⟩ : ByteArray) 0 (.slice (some ⟨b8, 0, none⟩) 1 1) [tx] zN []), (ST.mk 13 t.a (bs t.t) (⟨#[]⟩ : ByteArray) 0 [xs] []), hb6, (Xs.mkT (Xs.cons (Xs.weaken (M' := [some b0, some b1, some b6]) hxx (SubM.cons (.tail _ (.head _)) (SubM.cons (.tail _ (.tail _ (.head _))) (SubM.cons (.tail _ (.tail _ (.tail _ (.head _)))) SubM.nil)))) (Xs.nil _ _ _)) (Xs.nil kAm [some b0, some b1, some b6] _) (rows_tm (m := 1) hb8 (mem1 (Q := fun u => TmOk w16 u) (((Xs.one hxx)).keep (Below.refl _ _))) rfl (by decide)) (RowsAt.nil _ 23) (fun _ => (show some b8 ∉ _ from (NI.cons n_b0_b8 (NI.cons n_b1_b8 (NI.cons n_b6_b8 (NI.nil _)))))) (fun h => absurd rfl h)), (MT.made (k := 13) (a := t.a) (nm := (bs t.t)) (pm := (⟨#[]⟩ : ByteArray)) (n := 0) (MTL.one hmx) (MAL.nil w) (fun _ => Nat.le_trans hWs gb8) (fun h => absurd rfl h)), (by rw [List.foldl_append, hfo]; show sUn t xs = _; rw [sUn, if_pos hc2']; rfl), Fr.then hRw hR (fun k e => .inr (e ▸ gb6)), Nat.le_trans hsW hR.size, hb0, hb1⟩⟩
    ·skip
     have hc2' := of_decide_eq_false hc2
     refine AtI.skip ?_
     refine .thenN ?_
     refine AtI.region (.inr ⟨_, rfl⟩) (nl_block (fun _ _ h => by cases h.1)) rfl ?_
     refine .move rfl rfl (.fieldAddr rfl fo47_3 rfl (.load rfl (Ld.ownCell ag3 hBx ((tk_ok t)).c3) rfl (.fieldAddr rfl fo47_1 rfl (.load rfl (Ld.ownCell ag9 hBx ((tk_ok t)).c1) rfl (.load rfl (Ld.own ag35 (sz35.trans (congrArg some ((Xs.one hxx)).size.symm)) hb6) rfl ?_)))))
     refine At.buildSlice (xs := [.tmp 41]) rfl rfl el26 sz35 ze35 (by intro v hv; simp only [List.mem_cons, List.not_mem_nil, or_false] at hv; rcases hv with rfl <;> first | rfl | simp [Value.cells, ((Xs.one hxx)).size]) rfl (by decide) rfl (fun b9 w17 F9 => ?_)
     have n_b0_b9 : b0 ≠ b9 := Nat.ne_of_lt (F9.lt hb0)
     have n_b1_b9 : b1 ≠ b9 := Nat.ne_of_lt (F9.lt hb1)
     have n_b6_b9 : b6 ≠ b9 := Nat.ne_of_lt (F9.lt hb6)
     have n_Bx_b9 : Bx ≠ b9 := Nat.ne_of_lt (F9.lt hBx)
     have gb9 := Nat.le_trans hR.size (Nat.le_of_eq F9.eq.symm)
     replace hb0 := F9.old hb0
     replace hb1 := F9.old hb1
     replace hb6 := F9.old hb6
     replace hBx := F9.old hBx
     replace hxx := Xs.fresh hxx F9
     have hb9 : w17.heap[b9]? = some (.cells (([tx].map Tm.cs).flatMap (·.toList)).toArray 35) := F9.new
     replace hR := hR.freshF F9
     refine .build (C := #[.int .i64 10, .int .i64 t.a, .string (bs t.t), zS, zI, (.slice (some ⟨b9, 0, none⟩) 1 1), zN, zI, zS, zI, zN, zN, zI, zN, zI, zI, zS, zI, zN, zN, zI]) sd35 ze35 rfl (Bld.cons fo35_0 rfl (by first | decide | exact Nat.le_of_ble_eq_true rfl) (Bld.cons fo35_1 rfl (by first | decide | exact Nat.le_of_ble_eq_true rfl) (Bld.cons fo35_2 rfl (by first | decide | exact Nat.le_of_ble_eq_true rfl) (Bld.cons fo35_5 rfl (by first | decide | exact Nat.le_of_ble_eq_true rfl) (Bld.nil _))))) rfl ?_
     refine At.storeAll rfl rfl hb6 sz35 ((Xs.one hxx)).size (by first | (simp [Value.oneCell', ((SlOk.nil)).one]; done) | (simp only [List.all_toArray, List.all_cons, List.all_nil, ((SlOk.nil)).one, Bool.and_true, Bool.true_and]; rfl)) (fun w18 S4 => ?_)
     replace hb0 := S4.other hb0 n_b0_b6
     replace hb1 := S4.other hb1 n_b1_b6
     replace hBx := S4.other hBx n_b6_Bx.symm
     replace hb9 := S4.other hb9 n_b6_b9.symm
     replace hxx := Xs.set hxx S4 (by simp)
     replace hb6 : w18.heap[b6]? = some (.cells #[.int .i64 10, .int .i64 t.a, .string (bs t.t), zS, zI, (.slice (some ⟨b9, 0, none⟩) 1 1), zN, zI, zS, zI, zN, zN, zI, zN, zI, zI, zS, zI, zN, zN, zI] 35) := S4.new
     replace hR := hR.setF S4 (.inl rfl)
     refine .ops0 (.inN ?_)
     exact fun a ha => ⟨rfl, KeepsFrom.ofFr hR hX0, hR.weaken (fun k h => .inl h), ⟨(tmA 10 t.a (bs t.t) (⟨#[]⟩ : ByteArray) 0 (.slice (some ⟨b9, 0, none⟩) 1 1) [tx] zN []), (ST.mk 10 t.a (bs t.t) (⟨#[]⟩ : ByteArray) 0 [xs] []), hb6, (Xs.mkT (Xs.cons (Xs.weaken (M' := [some b0, some b1, some b6]) hxx (SubM.cons (.tail _ (.head _)) (SubM.cons (.tail _ (.tail _ (.head _))) (SubM.cons (.tail _ (.tail _ (.tail _ (.head _)))) SubM.nil)))) (Xs.nil _ _ _)) (Xs.nil kAm [some b0, some b1, some b6] _) (rows_tm (m := 1) hb9 (mem1 (Q := fun u => TmOk w18 u) (((Xs.one hxx)).keep (Below.refl _ _))) rfl (by decide)) (RowsAt.nil _ 23) (fun _ => (show some b9 ∉ _ from (NI.cons n_b0_b9 (NI.cons n_b1_b9 (NI.cons n_b6_b9 (NI.nil _)))))) (fun h => absurd rfl h)), (MT.made (k := 10) (a := t.a) (nm := (bs t.t)) (pm := (⟨#[]⟩ : ByteArray)) (n := 0) (MTL.one hmx) (MAL.nil w) (fun _ => Nat.le_trans hWs gb9) (fun h => absurd rfl h)), (by rw [List.foldl_append, hfo]; show sUn t xs = _; rw [sUn, if_neg hc2']; rfl), Fr.then hRw hR (fun k e => .inr (e ▸ gb6)), Nat.le_trans hsW hR.size, hb0, hb1⟩⟩
   ·skip
    obtain ⟨tx, xs, hb6, hxx, hmx, hfo, hRw, hsW, hb0, hb1⟩ := hI
    have hR := hRw
    have hB := Fr.below hR hB0 hB0.size hSge
    have hWs := hRw.size
    have n_b0_D : b0 ≠ D := fun e => by subst e; rw [hb0] at hD; cases hD
    have n_b1_D : b1 ≠ D := fun e => by subst e; rw [hb1] at hD; cases hD
    have n_b6_D : b6 ≠ D := fun e => by subst e; rw [hb6] at hD; cases hD
    rw [List.foldl_reverse] at hfo
    refine .inN (.thenN (.seq (.region (.load rfl (Ld.own ag35 (sz35.trans (congrArg some ((Xs.one hxx)).size.symm)) hb6) rfl ?_))))
    refine At.storeAll rfl rfl hb1 (sz35.trans (congrArg some ((Xs.one hxx)).size.symm)) ((Xs.one hxx)).size.symm ((Xs.one hxx)).one (fun w19 S5 => ?_)
    replace hb0 := S5.other hb0 n_b0_b1
    replace hb6 := S5.other hb6 n_b1_b6.symm
    replace hD := S5.other hD n_b1_D.symm
    replace hxx := Xs.set hxx S5 (by simp)
    replace hb1 : w19.heap[b1]? = some (.cells tx.cs 35) := S5.new
    replace hR := hR.setF S5 (.inr gb1)
    replace hB := Fr.below hR hB0 hB0.size hSge
    refine .ops0 (.thenN (.retc ?_))
    have hgD := grownBy_putObj' w19 D (.deferred none)
    have hrD : ∀ r, some D = some r → ∃ o : Obj, w19.heap[r]? = some o ∧ o.isCells = false := fun r e => by cases e; exact ⟨_, hD, rfl⟩
    replace hb0 := cells_grown hb0 hgD hrD
    replace hb1 := cells_grown hb1 hgD hrD
    replace hb6 := cells_grown hb6 hgD hrD
    replace hxx := Xs.grownC hxx hgD hrD
    replace hR := Fr.grownG hR hgD (fun r e => by cases e; exact Nat.le_trans hsz0 hDge)
    refine .doneM (D := D) (ResV.cell rfl (Ld.own ag35 (sz35.trans (congrArg some ((Xs.one hxx)).size.symm)) hb1) ResV.nil) hD ?_
    exact RetP.ok (x := List.foldr sUn x3 lt) (by obtain ⟨q, rfl⟩ : ∃ q, f = q + 1 := ⟨f - 1, by omega⟩; rw [hs, preP]; simp only [preB', SB, hg1, hc1, hq3] <;> rfl) hR hts3 hb0 ⟨tx, rfl, Xs.one hxx, hfo ▸ hmx⟩
theorem prod_any {wB : World} {b0 : Nat} {en dp : Int} (ts : List Tk) (v : Value) (ex : List Tk → PR ST) (w : World) (hB0 : Below wB.heap.size wB w) (hSge : ∀ k, k = b0 → wB.heap.size ≤ k) (hts : RowsAt wB v 4 (ts.map Tk.cs)) (hb0 : w.heap[b0]? = some (.cells #[v, .int .i64 en, .int .i64 dp] 81)) (hbig : ts.length ≤ 100000000) (hxs : ∀ ts, (ex ts).Sh ts.length) (hex : ExC en dp ex) :
  Calls Try.prog 101 ([.pointer (some ⟨b0, 0, none⟩)] : List Value).toArray w fun e w' => RetP (fun k => k = b0) wB b0 en dp (okT w) (prodP en ex ts) w e w' := by
 have htl := hts.lenL
 have hR := Fr.refl (fun k => k = b0) w
 have hB := hB0
 refine At.enter (N := 8) Try.func101 rfl rfl (by simp) [(0, .pointer (some ⟨b0, 0, none⟩))] (by simp) ?_
 refine .seq (.region ?_)
 refine At.alloc ze35 rfl (fun b1 w1 F1 => ?_)
 have n_b0_b1 : b0 ≠ b1 := Nat.ne_of_lt (F1.lt hb0)
 have gb1 := Nat.le_trans hR.size (Nat.le_of_eq F1.eq.symm)
 replace hb0 := F1.old hb0
 have hb1 : w1.heap[b1]? = some (.cells #[zI, zI, zS, zS, zI, zN, zN, zI, zS, zI, zN, zN, zI, zN, zI, zI, zS, zI, zN, zN, zI] 35) := F1.new
 replace hR := hR.freshF F1
 replace hB := Fr.below hR hB0 hB0.size hSge
 refine .ops0 (.thenN (.seq (.region (.move rfl rfl (.move rfl rfl (.makeFuncM rfl rfl rfl ?_))))))
 refine At.buildSlice (xs := [.const (.string (⟨#[42]⟩ : ByteArray)), .const (.string (⟨#[47]⟩ : ByteArray))]) rfl rfl el29 sz9 ze9 (by intro v hv; simp only [List.mem_cons, List.not_mem_nil, or_false] at hv; rcases hv with rfl | rfl <;> first | rfl | simp [Value.cells]) rfl (by decide) rfl (fun b2 w2 F2 => ?_)
 have n_b0_b2 : b0 ≠ b2 := Nat.ne_of_lt (F2.lt hb0)
 have n_b1_b2 : b1 ≠ b2 := Nat.ne_of_lt (F2.lt hb1)
 have gb2 := Nat.le_trans hR.size (Nat.le_of_eq F2.eq.symm)
 replace hb0 := F2.old hb0
 replace hb1 := F2.old hb1
 have hb2 : w2.heap[b2]? = some (.cells #[.string (⟨#[42]⟩ : ByteArray), .string (⟨#[47]⟩ : ByteArray)] 9) := F2.new
 replace hR := hR.freshF F2
 replace hB := Fr.below hR hB0 hB0.size hSge
 have hml1 : MLt w2.heap.size [some b0, some b1, some b2] := (MLt.blk hb0 (MLt.blk hb1 (MLt.blk hb2 (MLt.nil _))))
 refine At.callP en100 rfl rfl (many_any ts v 103 (unaryP en ex) (.slice (some ⟨b2, 0, none⟩) 2 2) ([(⟨#[42]⟩ : ByteArray), (⟨#[47]⟩ : ByteArray)]) _ hB hSge hts hb0 (hbig) en103 (unary_sh hxs) (fun wB b0 ts v w a1 a2 a3 a4 a5 => unary_any ts v ex w a1 a2 a3 a4 a5 hxs hex) (OwnS.made (ss := ([(⟨#[42]⟩ : ByteArray), (⟨#[47]⟩ : ByteArray)])) hb2 rfl (by decide))) (fun e wp1 hR' => ?_)
 rcases hR'.cases.symm with ⟨ba, bc, hq1, rfl, hF1, hbb⟩ | ⟨x1, us1, val1, vr1, hq1, rfl, hF1, hts1, hbo1, ho1⟩
 ·exact .inr ⟨_, rfl, (Pk.then (Pk.body (RetP.bad (by simp only [prodP, SB, hq1] <;> rfl) (Fr.then hR hF1 (fun k hk => .inl hk)) hbb)))⟩
 refine .inl ⟨_, rfl, ?_⟩
 replace hb1 := Fr.oldB hF1 hb1 (n_b0_b1.symm)
 replace hb2 := Fr.oldB hF1 hb2 (n_b0_b2.symm)
 replace hb0 := hbo1
 have hsz1 := hR.size
 replace hR := Fr.then hR hF1 (fun k hk => .inl hk)
 replace hB := Fr.below hR hB0 hB0.size hSge
 obtain ⟨tm1, rfl, htm1, hmt1⟩ := ho1
 have hx1 := Xs.of_new (B := 0) (M := [some b0, some b1, some b2]) (K := kTm) htm1 (fun b hb => .inr (hmt1.blk b hb)) (fun _ _ => Nat.zero_le _) hml1
 replace hmt1 := hmt1.mono hsz1
 refine At.storeAll rfl rfl hb1 (sz35.trans (congrArg some ((Xs.one hx1)).size.symm)) ((Xs.one hx1)).size.symm ((Xs.one hx1)).one (fun w3 S1 => ?_)
 replace hb0 := S1.other hb0 n_b0_b1
 replace hb2 := S1.other hb2 n_b1_b2.symm
 replace hx1 := Xs.set hx1 S1 (by simp)
 replace hb1 : w3.heap[b1]? = some (.cells tm1.cs 35) := S1.new
 replace hR := hR.setF S1 (.inr gb1)
 replace hB := Fr.below hR hB0 hB0.size hSge
 refine .ops0 (.thenN (.retc (.doneR (ResV.cell rfl (Ld.own ag35 (sz35.trans (congrArg some ((Xs.one hx1)).size.symm)) hb1) ResV.nil) ?_)))
 exact RetP.ok (x := x1) (by simp only [prodP, SB, hq1] <;> rfl) hR hts1 hb0 ⟨tm1, rfl, (Xs.one hx1), hmt1⟩
theorem sum_any {wB : World} {b0 : Nat} {en dp : Int} (ts : List Tk) (v : Value) (ex : List Tk → PR ST) (w : World) (hB0 : Below wB.heap.size wB w) (hSge : ∀ k, k = b0 → wB.heap.size ≤ k) (hts : RowsAt wB v 4 (ts.map Tk.cs)) (hb0 : w.heap[b0]? = some (.cells #[v, .int .i64 en, .int .i64 dp] 81)) (hbig : ts.length ≤ 100000000) (hxs : ∀ ts, (ex ts).Sh ts.length) (hex : ExC en dp ex) :
  Calls Try.prog 96 ([.pointer (some ⟨b0, 0, none⟩)] : List Value).toArray w fun e w' => RetP (fun k => k = b0) wB b0 en dp (okT w) (sumP en ex ts) w e w' := by
 have htl := hts.lenL
 have hR := Fr.refl (fun k => k = b0) w
 have hB := hB0
 refine At.enter (N := 8) Try.func96 rfl rfl (by simp) [(0, .pointer (some ⟨b0, 0, none⟩))] (by simp) ?_
 refine .seq (.region ?_)
 refine At.alloc ze35 rfl (fun b1 w1 F1 => ?_)
 have n_b0_b1 : b0 ≠ b1 := Nat.ne_of_lt (F1.lt hb0)
 have gb1 := Nat.le_trans hR.size (Nat.le_of_eq F1.eq.symm)
 replace hb0 := F1.old hb0
 have hb1 : w1.heap[b1]? = some (.cells #[zI, zI, zS, zS, zI, zN, zN, zI, zS, zI, zN, zN, zI, zN, zI, zI, zS, zI, zN, zN, zI] 35) := F1.new
 replace hR := hR.freshF F1
 replace hB := Fr.below hR hB0 hB0.size hSge
 refine .ops0 (.thenN (.seq (.region (.move rfl rfl (.move rfl rfl (.makeFuncM rfl rfl rfl ?_))))))
 refine At.buildSlice (xs := [.const (.string (⟨#[43]⟩ : ByteArray)), .const (.string (⟨#[45]⟩ : ByteArray))]) rfl rfl el29 sz9 ze9 (by intro v hv; simp only [List.mem_cons, List.not_mem_nil, or_false] at hv; rcases hv with rfl | rfl <;> first | rfl | simp [Value.cells]) rfl (by decide) rfl (fun b2 w2 F2 => ?_)
 have n_b0_b2 : b0 ≠ b2 := Nat.ne_of_lt (F2.lt hb0)
 have n_b1_b2 : b1 ≠ b2 := Nat.ne_of_lt (F2.lt hb1)
 have gb2 := Nat.le_trans hR.size (Nat.le_of_eq F2.eq.symm)
 replace hb0 := F2.old hb0
 replace hb1 := F2.old hb1
 have hb2 : w2.heap[b2]? = some (.cells #[.string (⟨#[43]⟩ : ByteArray), .string (⟨#[45]⟩ : ByteArray)] 9) := F2.new
 replace hR := hR.freshF F2
 replace hB := Fr.below hR hB0 hB0.size hSge
 have hml1 : MLt w2.heap.size [some b0, some b1, some b2] := (MLt.blk hb0 (MLt.blk hb1 (MLt.blk hb2 (MLt.nil _))))
 refine At.callP en100 rfl rfl (many_any ts v 101 (prodP en ex) (.slice (some ⟨b2, 0, none⟩) 2 2) ([(⟨#[43]⟩ : ByteArray), (⟨#[45]⟩ : ByteArray)]) _ hB hSge hts hb0 (hbig) en101 (prod_sh hxs) (fun wB b0 ts v w a1 a2 a3 a4 a5 => prod_any ts v ex w a1 a2 a3 a4 a5 hxs hex) (OwnS.made (ss := ([(⟨#[43]⟩ : ByteArray), (⟨#[45]⟩ : ByteArray)])) hb2 rfl (by decide))) (fun e wp1 hR' => ?_)
 rcases hR'.cases.symm with ⟨ba, bc, hq1, rfl, hF1, hbb⟩ | ⟨x1, us1, val1, vr1, hq1, rfl, hF1, hts1, hbo1, ho1⟩
 ·exact .inr ⟨_, rfl, (Pk.then (Pk.body (RetP.bad (by simp only [sumP, SB, hq1] <;> rfl) (Fr.then hR hF1 (fun k hk => .inl hk)) hbb)))⟩
 refine .inl ⟨_, rfl, ?_⟩
 replace hb1 := Fr.oldB hF1 hb1 (n_b0_b1.symm)
 replace hb2 := Fr.oldB hF1 hb2 (n_b0_b2.symm)
 replace hb0 := hbo1
 have hsz1 := hR.size
 replace hR := Fr.then hR hF1 (fun k hk => .inl hk)
 replace hB := Fr.below hR hB0 hB0.size hSge
 obtain ⟨tm1, rfl, htm1, hmt1⟩ := ho1
 have hx1 := Xs.of_new (B := 0) (M := [some b0, some b1, some b2]) (K := kTm) htm1 (fun b hb => .inr (hmt1.blk b hb)) (fun _ _ => Nat.zero_le _) hml1
 replace hmt1 := hmt1.mono hsz1
 refine At.storeAll rfl rfl hb1 (sz35.trans (congrArg some ((Xs.one hx1)).size.symm)) ((Xs.one hx1)).size.symm ((Xs.one hx1)).one (fun w3 S1 => ?_)
 replace hb0 := S1.other hb0 n_b0_b1
 replace hb2 := S1.other hb2 n_b1_b2.symm
 replace hx1 := Xs.set hx1 S1 (by simp)
 replace hb1 : w3.heap[b1]? = some (.cells tm1.cs 35) := S1.new
 replace hR := hR.setF S1 (.inr gb1)
 replace hB := Fr.below hR hB0 hB0.size hSge
 refine .ops0 (.thenN (.retc (.doneR (ResV.cell rfl (Ld.own ag35 (sz35.trans (congrArg some ((Xs.one hx1)).size.symm)) hb1) ResV.nil) ?_)))
 exact RetP.ok (x := x1) (by simp only [sumP, SB, hq1] <;> rfl) hR hts1 hb0 ⟨tm1, rfl, (Xs.one hx1), hmt1⟩
theorem cmp_any {wB : World} {b0 : Nat} {en dp : Int} (ts : List Tk) (v : Value) (ex : List Tk → PR ST) (w : World) (hB0 : Below wB.heap.size wB w) (hSge : ∀ k, k = b0 → wB.heap.size ≤ k) (hts : RowsAt wB v 4 (ts.map Tk.cs)) (hb0 : w.heap[b0]? = some (.cells #[v, .int .i64 en, .int .i64 dp] 81)) (hbig : ts.length ≤ 100000000) (hxs : ∀ ts, (ex ts).Sh ts.length) (hex : ExC en dp ex) :
  Calls Try.prog 89 ([.pointer (some ⟨b0, 0, none⟩)] : List Value).toArray w fun e w' => RetP (fun k => k = b0) wB b0 en dp (okT w) (cmpP en ex ts) w e w' := by
 have htl := hts.lenL
 have hR := Fr.refl (fun k => k = b0) w
 have hB := hB0
 refine At.enter (N := 8) Try.func89 rfl rfl (by simp) [(0, .pointer (some ⟨b0, 0, none⟩))] (by simp) ?_
 refine .seq (.region ?_)
 refine At.alloc ze35 rfl (fun b1 w1 F1 => ?_)
 have n_b0_b1 : b0 ≠ b1 := Nat.ne_of_lt (F1.lt hb0)
 have gb1 := Nat.le_trans hR.size (Nat.le_of_eq F1.eq.symm)
 replace hb0 := F1.old hb0
 have hb1 : w1.heap[b1]? = some (.cells #[zI, zI, zS, zS, zI, zN, zN, zI, zS, zI, zN, zN, zI, zN, zI, zI, zS, zI, zN, zN, zI] 35) := F1.new
 replace hR := hR.freshF F1
 replace hB := Fr.below hR hB0 hB0.size hSge
 refine .ops0 (.thenN (.seq (.region (.move rfl rfl (.move rfl rfl (.makeFuncM rfl rfl rfl ?_))))))
 refine At.buildSlice (xs := [.const (.string (⟨#[60]⟩ : ByteArray)), .const (.string (⟨#[61]⟩ : ByteArray))]) rfl rfl el29 sz9 ze9 (by intro v hv; simp only [List.mem_cons, List.not_mem_nil, or_false] at hv; rcases hv with rfl | rfl <;> first | rfl | simp [Value.cells]) rfl (by decide) rfl (fun b2 w2 F2 => ?_)
 have n_b0_b2 : b0 ≠ b2 := Nat.ne_of_lt (F2.lt hb0)
 have n_b1_b2 : b1 ≠ b2 := Nat.ne_of_lt (F2.lt hb1)
 have gb2 := Nat.le_trans hR.size (Nat.le_of_eq F2.eq.symm)
 replace hb0 := F2.old hb0
 replace hb1 := F2.old hb1
 have hb2 : w2.heap[b2]? = some (.cells #[.string (⟨#[60]⟩ : ByteArray), .string (⟨#[61]⟩ : ByteArray)] 9) := F2.new
 replace hR := hR.freshF F2
 replace hB := Fr.below hR hB0 hB0.size hSge
 have hml1 : MLt w2.heap.size [some b0, some b1, some b2] := (MLt.blk hb0 (MLt.blk hb1 (MLt.blk hb2 (MLt.nil _))))
 refine At.callP en88 rfl rfl (once_any ts v 96 (sumP en ex) (.slice (some ⟨b2, 0, none⟩) 2 2) ([(⟨#[60]⟩ : ByteArray), (⟨#[61]⟩ : ByteArray)]) _ hB hSge hts hb0 (hbig) en96 (sum_sh hxs) (fun wB b0 ts v w a1 a2 a3 a4 a5 => sum_any ts v ex w a1 a2 a3 a4 a5 hxs hex) (OwnS.made (ss := ([(⟨#[60]⟩ : ByteArray), (⟨#[61]⟩ : ByteArray)])) hb2 rfl (by decide))) (fun e wp1 hR' => ?_)
 rcases hR'.cases.symm with ⟨ba, bc, hq1, rfl, hF1, hbb⟩ | ⟨x1, us1, val1, vr1, hq1, rfl, hF1, hts1, hbo1, ho1⟩
 ·exact .inr ⟨_, rfl, (Pk.then (Pk.body (RetP.bad (by simp only [cmpP, SB, hq1] <;> rfl) (Fr.then hR hF1 (fun k hk => .inl hk)) hbb)))⟩
 refine .inl ⟨_, rfl, ?_⟩
 replace hb1 := Fr.oldB hF1 hb1 (n_b0_b1.symm)
 replace hb2 := Fr.oldB hF1 hb2 (n_b0_b2.symm)
 replace hb0 := hbo1
 have hsz1 := hR.size
 replace hR := Fr.then hR hF1 (fun k hk => .inl hk)
 replace hB := Fr.below hR hB0 hB0.size hSge
 obtain ⟨tm1, rfl, htm1, hmt1⟩ := ho1
 have hx1 := Xs.of_new (B := 0) (M := [some b0, some b1, some b2]) (K := kTm) htm1 (fun b hb => .inr (hmt1.blk b hb)) (fun _ _ => Nat.zero_le _) hml1
 replace hmt1 := hmt1.mono hsz1
 refine At.storeAll rfl rfl hb1 (sz35.trans (congrArg some ((Xs.one hx1)).size.symm)) ((Xs.one hx1)).size.symm ((Xs.one hx1)).one (fun w3 S1 => ?_)
 replace hb0 := S1.other hb0 n_b0_b1
 replace hb2 := S1.other hb2 n_b1_b2.symm
 replace hx1 := Xs.set hx1 S1 (by simp)
 replace hb1 : w3.heap[b1]? = some (.cells tm1.cs 35) := S1.new
 replace hR := hR.setF S1 (.inr gb1)
 replace hB := Fr.below hR hB0 hB0.size hSge
 refine .ops0 (.thenN (.retc (.doneR (ResV.cell rfl (Ld.own ag35 (sz35.trans (congrArg some ((Xs.one hx1)).size.symm)) hb1) ResV.nil) ?_)))
 exact RetP.ok (x := x1) (by simp only [cmpP, SB, hq1] <;> rfl) hR hts1 hb0 ⟨tm1, rfl, (Xs.one hx1), hmt1⟩
theorem assign_any {wB : World} {b0 : Nat} {en dp : Int} (ts : List Tk) (v : Value) (ex : List Tk → PR ST) (w : World) (hB0 : Below wB.heap.size wB w) (hSge : ∀ k, k = b0 → wB.heap.size ≤ k) (hts : RowsAt wB v 4 (ts.map Tk.cs)) (hb0 : w.heap[b0]? = some (.cells #[v, .int .i64 en, .int .i64 dp] 81)) (hbig : ts.length ≤ 100000000) (hxs : ∀ ts, (ex ts).Sh ts.length) (hex : ExC en dp ex) :
  Calls Try.prog 79 ([.pointer (some ⟨b0, 0, none⟩)] : List Value).toArray w fun e w' => RetP (fun k => k = b0) wB b0 en dp (okT w) (assignP en ex ts) w e w' := by
 have htl := hts.lenL
 have hR := Fr.refl (fun k => k = b0) w
 have hB := hB0
 refine At.enter (N := 8) Try.func79 rfl rfl (by simp) [(0, .pointer (some ⟨b0, 0, none⟩))] (by simp) ?_
 refine .seq (.region ?_)
 refine At.alloc ze35 rfl (fun b1 w1 F1 => ?_)
 have n_b0_b1 : b0 ≠ b1 := Nat.ne_of_lt (F1.lt hb0)
 have gb1 := Nat.le_trans hR.size (Nat.le_of_eq F1.eq.symm)
 replace hb0 := F1.old hb0
 have hb1 : w1.heap[b1]? = some (.cells #[zI, zI, zS, zS, zI, zN, zN, zI, zS, zI, zN, zN, zI, zN, zI, zI, zS, zI, zN, zN, zI] 35) := F1.new
 replace hR := hR.freshF F1
 replace hB := Fr.below hR hB0 hB0.size hSge
 refine .ops0 (.thenN (.seq (.region (.move rfl rfl (.move rfl rfl (.makeFuncM rfl rfl rfl ?_))))))
 refine At.buildSlice (xs := [.const (.string (⟨#[58, 61]⟩ : ByteArray))]) rfl rfl el29 sz9 ze9 (by intro v hv; simp only [List.mem_cons, List.not_mem_nil, or_false] at hv; rcases hv with rfl <;> first | rfl | simp [Value.cells]) rfl (by decide) rfl (fun b2 w2 F2 => ?_)
 have n_b0_b2 : b0 ≠ b2 := Nat.ne_of_lt (F2.lt hb0)
 have n_b1_b2 : b1 ≠ b2 := Nat.ne_of_lt (F2.lt hb1)
 have gb2 := Nat.le_trans hR.size (Nat.le_of_eq F2.eq.symm)
 replace hb0 := F2.old hb0
 replace hb1 := F2.old hb1
 have hb2 : w2.heap[b2]? = some (.cells #[.string (⟨#[58, 61]⟩ : ByteArray)] 9) := F2.new
 replace hR := hR.freshF F2
 replace hB := Fr.below hR hB0 hB0.size hSge
 have hml1 : MLt w2.heap.size [some b0, some b1, some b2] := (MLt.blk hb0 (MLt.blk hb1 (MLt.blk hb2 (MLt.nil _))))
 refine At.callP en88 rfl rfl (once_any ts v 89 (cmpP en ex) (.slice (some ⟨b2, 0, none⟩) 1 1) ([(⟨#[58, 61]⟩ : ByteArray)]) _ hB hSge hts hb0 (hbig) en89 (cmp_sh hxs) (fun wB b0 ts v w a1 a2 a3 a4 a5 => cmp_any ts v ex w a1 a2 a3 a4 a5 hxs hex) (OwnS.made (ss := ([(⟨#[58, 61]⟩ : ByteArray)])) hb2 rfl (by decide))) (fun e wp1 hR' => ?_)
 rcases hR'.cases.symm with ⟨ba, bc, hq1, rfl, hF1, hbb⟩ | ⟨x1, us1, val1, vr1, hq1, rfl, hF1, hts1, hbo1, ho1⟩
 ·exact .inr ⟨_, rfl, (Pk.then (Pk.body (RetP.bad (by simp only [assignP, SB, hq1] <;> rfl) (Fr.then hR hF1 (fun k hk => .inl hk)) hbb)))⟩
 refine .inl ⟨_, rfl, ?_⟩
 replace hb1 := Fr.oldB hF1 hb1 (n_b0_b1.symm)
 replace hb2 := Fr.oldB hF1 hb2 (n_b0_b2.symm)
 replace hb0 := hbo1
 have hsz1 := hR.size
 replace hR := Fr.then hR hF1 (fun k hk => .inl hk)
 replace hB := Fr.below hR hB0 hB0.size hSge
 obtain ⟨tm1, rfl, htm1, hmt1⟩ := ho1
 have hx1 := Xs.of_new (B := 0) (M := [some b0, some b1, some b2]) (K := kTm) htm1 (fun b hb => .inr (hmt1.blk b hb)) (fun _ _ => Nat.zero_le _) hml1
 replace hmt1 := hmt1.mono hsz1
 refine At.storeAll rfl rfl hb1 (sz35.trans (congrArg some ((Xs.one hx1)).size.symm)) ((Xs.one hx1)).size.symm ((Xs.one hx1)).one (fun w3 S1 => ?_)
 replace hb0 := S1.other hb0 n_b0_b1
 replace hb2 := S1.other hb2 n_b1_b2.symm
 replace hx1 := Xs.set hx1 S1 (by simp)
 replace hb1 : w3.heap[b1]? = some (.cells tm1.cs 35) := S1.new
 replace hR := hR.setF S1 (.inr gb1)
 replace hB := Fr.below hR hB0 hB0.size hSge
 refine .ops0 (.thenN (.retc (.doneR (ResV.cell rfl (Ld.own ag35 (sz35.trans (congrArg some ((Xs.one hx1)).size.symm)) hb1) ResV.nil) ?_)))
 exact RetP.ok (x := x1) (by simp only [assignP, SB, hq1] <;> rfl) hR hts1 hb0 ⟨tm1, rfl, (Xs.one hx1), hmt1⟩
end Go.Proofs.Ytkjmjnddanhapaa
