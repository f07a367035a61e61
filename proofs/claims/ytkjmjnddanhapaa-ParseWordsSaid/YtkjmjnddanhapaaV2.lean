/-
 The walks of signs and of the rules: what each call does, for every argument. Written by a program of ours.
-/
import Derived.Test.YtkjmjnddanhapaaV1
import Derived.Test.YtkjmjnddanhapaaL3
set_option linter.unusedVariables false
set_option linter.unusedSimpArgs false
namespace Go.Proofs.Ytkjmjnddanhapaa
open Go.RowKit
theorem el29 : elemB Try.prog 29 = some 9 := by kernel_rfl
theorem en52 : entB Try.prog 52 = true := by kernel_rfl
theorem en53 : entB Try.prog 53 = true := by kernel_rfl
theorem en54 : entB Try.prog 54 = true := by kernel_rfl
theorem en55 : entB Try.prog 55 = true := by kernel_rfl
theorem mixed : Try.prog.follows .mixedOrders = true := by kernel_rfl
theorem sz9 : sizeB Try.prog 9 = some 1 := by kernel_rfl
theorem ze9 : zeroB Try.prog 9 = some (.string (⟨#[]⟩ : ByteArray)) := by kernel_rfl
theorem signs_any  (w : World)  :
  Calls Try.prog 52 ([] : List Value).toArray w fun e w' => ∃ v', e = .returned v' ∧ Below w.heap.size w w' ∧ StrsAt w' v' signsS ∧ w.heap.size ≤ vBlock v' := by
 have hB := Below.refl w.heap.size w
 refine At.enter (N := 2) Try.func52 rfl rfl (by simp) [] (by simp) ?_
 refine .seq (.region (.assign rfl rfl (.ops0 (.thenN (.seq (.region ?_))))))
 refine At.buildSlice (xs := [.const (.string (⟨#[45, 62]⟩ : ByteArray)), .const (.string (⟨#[58, 61]⟩ : ByteArray)), .const (.string (⟨#[40]⟩ : ByteArray)), .const (.string (⟨#[41]⟩ : ByteArray)), .const (.string (⟨#[123]⟩ : ByteArray)), .const (.string (⟨#[125]⟩ : ByteArray)), .const (.string (⟨#[44]⟩ : ByteArray)), .const (.string (⟨#[59]⟩ : ByteArray)), .const (.string (⟨#[58]⟩ : ByteArray)), .const (.string (⟨#[61]⟩ : ByteArray)), .const (.string (⟨#[43]⟩ : ByteArray)), .const (.string (⟨#[45]⟩ : ByteArray)), .const (.string (⟨#[42]⟩ : ByteArray)), .const (.string (⟨#[47]⟩ : ByteArray)), .const (.string (⟨#[60]⟩ : ByteArray)), .const (.string (⟨#[33]⟩ : ByteArray))]) rfl rfl el29 sz9 ze9 (by intro v hv; simp only [List.mem_cons, List.not_mem_nil, or_false] at hv; rcases hv with rfl | rfl | rfl | rfl | rfl | rfl | rfl | rfl | rfl | rfl | rfl | rfl | rfl | rfl | rfl | rfl <;> first | rfl | simp [Value.cells]) rfl (by decide) rfl (fun b1 w1 F1 => ?_)
 have gb1 := F1.ge hB
 have hb1 : w1.heap[b1]? = some (.cells #[.string (⟨#[45, 62]⟩ : ByteArray), .string (⟨#[58, 61]⟩ : ByteArray), .string (⟨#[40]⟩ : ByteArray), .string (⟨#[41]⟩ : ByteArray), .string (⟨#[123]⟩ : ByteArray), .string (⟨#[125]⟩ : ByteArray), .string (⟨#[44]⟩ : ByteArray), .string (⟨#[59]⟩ : ByteArray), .string (⟨#[58]⟩ : ByteArray), .string (⟨#[61]⟩ : ByteArray), .string (⟨#[43]⟩ : ByteArray), .string (⟨#[45]⟩ : ByteArray), .string (⟨#[42]⟩ : ByteArray), .string (⟨#[47]⟩ : ByteArray), .string (⟨#[60]⟩ : ByteArray), .string (⟨#[33]⟩ : ByteArray)] 9) := F1.new
 replace hB := F1.below' hB
 refine .assign rfl rfl (.ops0 (.thenN (.retc (.doneR (ResV.tmp rfl ResV.nil) ?_))))
 exact ⟨_, rfl, hB, (StrsAt.own (ss := [(⟨#[45, 62]⟩ : ByteArray), (⟨#[58, 61]⟩ : ByteArray), (⟨#[40]⟩ : ByteArray), (⟨#[41]⟩ : ByteArray), (⟨#[123]⟩ : ByteArray), (⟨#[125]⟩ : ByteArray), (⟨#[44]⟩ : ByteArray), (⟨#[59]⟩ : ByteArray), (⟨#[58]⟩ : ByteArray), (⟨#[61]⟩ : ByteArray), (⟨#[43]⟩ : ByteArray), (⟨#[45]⟩ : ByteArray), (⟨#[42]⟩ : ByteArray), (⟨#[47]⟩ : ByteArray), (⟨#[60]⟩ : ByteArray), (⟨#[33]⟩ : ByteArray)]) hb1 rfl (by decide) : StrsAt _ (.slice (some ⟨b1, 0, none⟩) 16 16) [(⟨#[45, 62]⟩ : ByteArray), (⟨#[58, 61]⟩ : ByteArray), (⟨#[40]⟩ : ByteArray), (⟨#[41]⟩ : ByteArray), (⟨#[123]⟩ : ByteArray), (⟨#[125]⟩ : ByteArray), (⟨#[44]⟩ : ByteArray), (⟨#[59]⟩ : ByteArray), (⟨#[58]⟩ : ByteArray), (⟨#[61]⟩ : ByteArray), (⟨#[43]⟩ : ByteArray), (⟨#[45]⟩ : ByteArray), (⟨#[42]⟩ : ByteArray), (⟨#[47]⟩ : ByteArray), (⟨#[60]⟩ : ByteArray), (⟨#[33]⟩ : ByteArray)]), gb1⟩
theorem strings_HasPrefix_u (l : List UInt8) (x : ByteArray) (w : World) : Calls Try.prog 55 ([.string (bs l), .string x] : List Value).toArray w fun e w' => e = .returned (.bool (preB l x)) ∧ w = w' := by
 have h := Try.strings_HasPrefix (bs l) x w
 rw [bs_list] at h
 exact h.mono fun e w' hq => ⟨hq.1, hq.2.symm⟩
theorem signC_any (x : ByteArray) (b0 : Nat) (l : List UInt8) (w : World) (hb0 : w.heap[b0]? = some (.cells #[.string (bs l)] 9)) :
  Calls Try.prog 54 ([.string x, .pointer (some ⟨b0, 0, none⟩)] : List Value).toArray w fun e w' => e = .returned (.bool (preB l x)) ∧ w = w' := by
 have hB := Below.refl w.heap.size w
 refine At.enter (N := 7) Try.func54 rfl rfl (by simp) [(0, .string x), (1, .pointer (some ⟨b0, 0, none⟩))] (by simp) ?_
 refine .seq (.region (.assign rfl rfl (.ops0 (.thenN (.seq (.region (.load rfl (Ld.ownCell ag9 hb0 rfl) rfl (.move rfl rfl ?_))))))))
 refine At.call en55 rfl rfl (strings_HasPrefix_u l x _) (fun e w' hR => ?_)
 obtain ⟨rfl, rfl⟩ := hR
 refine ⟨_, rfl, ?_⟩
 refine .assign rfl rfl (.ops0 (.thenN (.retc (.doneR (ResV.tmp rfl ResV.nil) ?_))))
 exact ⟨rfl, rfl⟩
theorem indexS_any (v : Value) (ss : List ByteArray) (c : FuncId) (cap : List Value) (p : ByteArray → Bool) (w : World) (hv : StrsAt w v ss) (hl : ss.length ≤ 9223372036854775807) (hent : entB Try.prog c = true) (hclo : ∀ (x : ByteArray) (w1 : World), Below w.heap.size w w1 → Calls Try.prog c ([.string x] ++ cap : List Value).toArray w1 fun e w2 => e = .returned (.bool (p x)) ∧ Below w1.heap.size w1 w2) :
  Calls Try.prog 53 ([v, .func (.func c) #[] cap.toArray] : List Value).toArray w fun e w' => e = .returned (.int .i64 (idxI p ss)) ∧ Below w.heap.size w w' := by
 have hB := Below.refl w.heap.size w
 refine At.enter (N := 19) Try.func53 rfl rfl (by simp) [(0, v), (1, .func (.func c) #[] cap.toArray)] (by simp) ?_
 refine .seq (.region (.assign rfl rfl (.ops0 (.thenN (.seq (.seq (.region (.move rfl rfl (.lenSl rfl (hv).ok el29 rfl (.move rfl rfl (.ops0 (.thenN (.block ?_)))))))))))))
 refine At.loop (Nat) (fun k => [(0, v), (1, .func (.func c) #[] cap.toArray), (7, .int .i64 (ss.length : Int)), (8, .int .i64 (k : Int))]) (fun k w1 => Below w.heap.size w w1 ∧ (k ≤ ss.length) ∧ (∀ i x, i < k → ss[i]? = some x → p x = false)) (fun k => ss.length - k) (0 : Nat) (Sub.cons rfl (Sub.cons rfl (Sub.cons rfl (Sub.cons rfl Sub.nil)))) ⟨hB, (Nat.zero_le _), (fun j x hj => absurd hj (Nat.not_lt_zero j))⟩ (fun k w1 hI => ?_)
 clear hB
 obtain ⟨hB, hk, hn⟩ := hI
 show At _ _ [(0, v), (1, .func (.func c) #[] cap.toArray), (7, .int .i64 (ss.length : Int)), (8, .int .i64 (k : Int))] _ _
 refine .seq (.region (.lss rfl rfl rfl (.ops0 (.thenN (.seq ?_)))))
 refine At.cond (b := decide ((k : Int) < (ss.length : Int))) rfl (fun hc1 => ?_) (fun hc1 => ?_)
 ·skip
  have hc1' := of_decide_eq_true hc1
  refine .skip (.thenN (.seq (.block (.seq (.region (.move rfl rfl (.assign rfl rfl (.ops0 (.thenN (.seq (.region (.move rfl rfl (.move rfl rfl (.move rfl rfl ?_))))))))))))))
  obtain ⟨u1, hu1⟩ := some_of_lt (l := ss) (i := k) (by omega)
  refine .indexAddr (i := k) rfl rfl (hv).ok (lt_of_some hu1) el29 sz9 rfl (.load rfl (Ld.cell ag9 (cell_keep ((hv).get hu1) hB)) rfl ?_)
  refine At.callV rfl hent rfl rfl (hclo u1 _ hB) (fun e w2 hR => ?_)
  obtain ⟨rfl, hbl1⟩ := hR
  refine ⟨_, rfl, ?_⟩
  replace hB := Below.andThen hB hbl1
  refine .ops0 (.thenN ?_)
  refine At.cond (b := (p u1)) rfl (fun hc2 => ?_) (fun hc2 => ?_)
  ·skip
   refine .seq (.region (.move rfl rfl (.assign rfl rfl (.ops0 (.thenN (.retc (.inR (.thenR (.thenR (.inR (.thenR (.doneR (ResV.tmp rfl ResV.nil) ?_))))))))))))
   exact ⟨congrArg Ending.returned (congrArg (Value.int .i64) (idxI_yes hu1 hc2 hn).symm), hB⟩
  ·skip
   refine .skip (.inN (.thenN (.region (.addI rfl rfl rfl (by omega) (.move rfl rfl (.ops0 (.thenN ?_)))))))
   exact fun act_ hact_ => ⟨(k + 1), hact_.sub (Sub.cons rfl (Sub.cons rfl (Sub.cons rfl (Sub.cons rfl Sub.nil)))), ⟨hB, (by omega), (next_no hn hu1 hc2)⟩, by first | omega | (dsimp only; omega)⟩
 ·skip
  have hc1' := of_decide_eq_false hc1
  refine .exit (.thenE (.thenE (.inE (.thenN (.seq (.region (.assign rfl rfl (.ops0 (.thenN (.retc (.doneR (ResV.tmp rfl ResV.nil) ?_)))))))))))
  exact ⟨congrArg Ending.returned (congrArg (Value.int .i64) (idxI_no (by omega) hn).symm), hB⟩
theorem sign_any (l : List UInt8) (w : World)  :
  Calls Try.prog 31 ([.string (bs l)] : List Value).toArray w fun e w' => e = .returned (signV l) ∧ Below w.heap.size w w' := by
 have hB := Below.refl w.heap.size w
 refine At.enter (N := 24) Try.func31 rfl rfl (by simp) [(0, .string (bs l))] (by simp) ?_
 refine .seq (.region ?_)
 refine At.box rfl rfl (fun b1 w1 F1 => ?_)
 have gb1 := F1.ge hB
 have hb1 : w1.heap[b1]? = some (.cells #[.string (bs l)] 9) := F1.new
 replace hB := F1.below' hB
 refine At.alloc ze47 rfl (fun b2 w2 F2 => ?_)
 have n_b1_b2 : b1 ≠ b2 := Nat.ne_of_lt (F2.lt hb1)
 have gb2 := F2.ge hB
 replace hb1 := F2.old hb1
 have hb2 : w2.heap[b2]? = some (.cells #[.int .i64 0, .string (⟨#[]⟩ : ByteArray), .int .i64 0, .int .i64 0] 47) := F2.new
 replace hB := F2.below' hB
 refine .assign rfl rfl (.assign rfl rfl (.ops0 (.thenN (.seq (.region ?_)))))
 refine At.call en52 rfl rfl (signs_any _) (fun e w3 hR => ?_)
 obtain ⟨vs1, rfl, hbl1, hst1, hnb1⟩ := hR
 refine ⟨_, rfl, ?_⟩
 have nb_hst1_b1 : vBlock vs1 ≠ b1 := Nat.ne_of_gt (Nat.lt_of_lt_of_le (Array.getElem?_eq_some_iff.1 hb1).1 hnb1)
 have nb_hst1_b2 : vBlock vs1 ≠ b2 := Nat.ne_of_gt (Nat.lt_of_lt_of_le (Array.getElem?_eq_some_iff.1 hb2).1 hnb1)
 replace hb1 := Below.old hbl1 hb1
 replace hb2 := Below.old hbl1 hb2
 replace hB := Below.andThen hB hbl1
 refine .assign rfl rfl (.ops0 (.thenN (.seq (.region (.move rfl rfl (.makeFunc rfl rfl ?_))))))
 refine At.call en53 rfl rfl (indexS_any vs1 signsS 54 [.pointer (some ⟨b1, 0, none⟩)] (preB l) _ ((hst1).keep (Below.refl _ _)) (by decide) en54 (fun x w1 hw => (signC_any x b1 l w1 (Below.old hw hb1)).mono fun e w2 hq => ⟨hq.1, hq.2 ▸ Below.refl _ _⟩)) (fun e w4 hR => ?_)
 obtain ⟨rfl, hbl2⟩ := hR
 refine ⟨_, rfl, ?_⟩
 replace hb1 := Below.old hbl2 hb1
 replace hb2 := Below.old hbl2 hb2
 replace hst1 := hst1.below hbl2
 replace hB := Below.andThen hB hbl2
 refine .assign rfl rfl (.ops0 (.thenN (.seq (.seq (.region (.move rfl rfl (.lss rfl rfl rfl (.ops0 (.thenN ?_)))))))))
 refine At.cond (b := decide ((idxI (preB l) signsS) < 0)) rfl (fun hc1 => ?_) (fun hc1 => ?_)
 ·skip
  have hc1' := of_decide_eq_true hc1
  refine .seq (.region (.build (C := #[.int .i64 0, .string (⟨#[]⟩ : ByteArray), .int .i64 0, .int .i64 0]) sd47 ze47 rfl (Bld.nil _) rfl ?_))
  refine At.storeAll rfl rfl hb2 sz47 rfl (by simp [Value.oneCell']) (fun w5 S1 => ?_)
  replace hb1 := S1.other hb1 n_b1_b2
  clear hst1
  replace hb2 : w5.heap[b2]? = some (.cells #[.int .i64 0, .string (⟨#[]⟩ : ByteArray), .int .i64 0, .int .i64 0] 47) := S1.new
  replace hB := S1.below' hB gb2
  refine .assign rfl rfl (.assign rfl rfl (.ops0 (.thenN (.retc (.thenR (.doneR (ResV.cell rfl (Ld.own (C := #[.int .i64 0, .string (⟨#[]⟩ : ByteArray), .int .i64 0, .int .i64 0]) ag47 sz47 hb2) (ResV.tmp rfl (ResV.tmp rfl ResV.nil))) ?_))))))
  exact ⟨congrArg Ending.returned (signV_none (idx_none (by omega))).symm, hB⟩
 ·skip
  have hc1' := of_decide_eq_false hc1
  refine .skip (.thenN (.seq ?_))
  obtain ⟨j, x, hj, hjx, hfx⟩ := idx_some (p := preB l) (l := signsS) (by omega)
  refine .set (d := 6) (u := .int .i64 (j : Int)) rfl (congrArg (Value.int .i64) hj) ?_
  refine At.draw mixed [(2, .pointer (some ⟨b2, 0, none⟩)), (5, vs1), (6, .int .i64 (j : Int))] (Sub.cons rfl (Sub.cons rfl (Sub.cons rfl Sub.nil))) rfl (RS ([(b2, .cells #[.int .i64 5, .string x, .int .i64 0, .int .i64 0] 47)] : List (Nat × Obj))) (dF [.c (vs1), .c (.int .i64 (j : Int)), .c (.pointer (some ⟨vBlock vs1, vOff vs1 + j * 1, none⟩)), .c (.string x), .c (.agg #[.int .i64 5, .string x, .int .i64 0, .int .i64 0]), .c (vs1), .c (.int .i64 (j : Int)), .c (.pointer (some ⟨vBlock vs1, vOff vs1 + j * 1, none⟩)), .c (.string x), .c (.int .i64 (x.size : Int)), .s b2 (.cells #[.int .i64 5, .string x, .int .i64 0, .int .i64 0] 47), .c (.int .i64 (x.size : Int)), .c (.bool true)]) (RS.drew _ _) RS.trans (dF.stab (by simp)) ⟨?_, ?_, ?_, ?_, ?_, ?_, ?_, ?_, ?_, ?_, ?_, ?_, ?_, trivial⟩ (fun vals w' hRS hf => ?_)
  ·intro vals Lx w1 hRS hpre
   have hB := RS.below hRS hB (by intro p hp; simp only [List.mem_cons, List.not_mem_nil, or_false] at hp; rcases hp with rfl <;> assumption)
   have hb1 := hRS.old _ _ (by intro p hp; simp only [List.mem_cons, List.not_mem_nil, or_false] at hp; rcases hp with rfl; exact n_b1_b2) hb1
   obtain ⟨c_b2, hb2, z_b2⟩ := hRS.shape (b2, .cells #[.int .i64 5, .string x, .int .i64 0, .int .i64 0] 47) (by simp) _ _ hb2
   have hst1 := StrsAt.rs hst1 hRS (by intro p hp; simp only [List.mem_cons, List.not_mem_nil, or_false] at hp; rcases hp with rfl; exact nb_hst1_b2)
   refine .move rfl rfl (.ops0 ?_)
   exact fun a ha => ⟨_, ha, RS.refl _ _, rfl⟩
  ·intro vals Lx w1 hRS hpre
   have hB := RS.below hRS hB (by intro p hp; simp only [List.mem_cons, List.not_mem_nil, or_false] at hp; rcases hp with rfl <;> assumption)
   have hb1 := hRS.old _ _ (by intro p hp; simp only [List.mem_cons, List.not_mem_nil, or_false] at hp; rcases hp with rfl; exact n_b1_b2) hb1
   obtain ⟨c_b2, hb2, z_b2⟩ := hRS.shape (b2, .cells #[.int .i64 5, .string x, .int .i64 0, .int .i64 0] 47) (by simp) _ _ hb2
   have hst1 := StrsAt.rs hst1 hRS (by intro p hp; simp only [List.mem_cons, List.not_mem_nil, or_false] at hp; rcases hp with rfl; exact nb_hst1_b2)
   refine .move rfl rfl (.ops0 ?_)
   exact fun a ha => ⟨_, ha, RS.refl _ _, rfl⟩
  ·intro vals Lx w1 hRS hpre
   have hB := RS.below hRS hB (by intro p hp; simp only [List.mem_cons, List.not_mem_nil, or_false] at hp; rcases hp with rfl <;> assumption)
   have hb1 := hRS.old _ _ (by intro p hp; simp only [List.mem_cons, List.not_mem_nil, or_false] at hp; rcases hp with rfl; exact n_b1_b2) hb1
   obtain ⟨c_b2, hb2, z_b2⟩ := hRS.shape (b2, .cells #[.int .i64 5, .string x, .int .i64 0, .int .i64 0] 47) (by simp) _ _ hb2
   have hst1 := StrsAt.rs hst1 hRS (by intro p hp; simp only [List.mem_cons, List.not_mem_nil, or_false] at hp; rcases hp with rfl; exact nb_hst1_b2)
   have p0 : vals 0 = vs1 := hpre 0 (by decide)
   refine .set (d := 14) (v := vals 0) rfl p0 ?_
   have p1 : vals 1 = .int .i64 (j : Int) := hpre 1 (by decide)
   refine .set (d := 15) (v := vals 1) rfl p1 (.indexAddr (i := j) rfl rfl (hst1).ok (lt_of_some hjx) el29 sz9 rfl (.ops0 ?_))
   exact fun a ha => ⟨_, ((ha).drop2 (congrArg some p1)).drop2 (congrArg some p0), RS.refl _ _, rfl⟩
  ·intro vals Lx w1 hRS hpre
   have hB := RS.below hRS hB (by intro p hp; simp only [List.mem_cons, List.not_mem_nil, or_false] at hp; rcases hp with rfl <;> assumption)
   have hb1 := hRS.old _ _ (by intro p hp; simp only [List.mem_cons, List.not_mem_nil, or_false] at hp; rcases hp with rfl; exact n_b1_b2) hb1
   obtain ⟨c_b2, hb2, z_b2⟩ := hRS.shape (b2, .cells #[.int .i64 5, .string x, .int .i64 0, .int .i64 0] 47) (by simp) _ _ hb2
   have hst1 := StrsAt.rs hst1 hRS (by intro p hp; simp only [List.mem_cons, List.not_mem_nil, or_false] at hp; rcases hp with rfl; exact nb_hst1_b2)
   have p2 : vals 2 = .pointer (some ⟨vBlock vs1, vOff vs1 + j * 1, none⟩) := hpre 2 (by decide)
   refine .set (d := 16) (v := vals 2) rfl p2 (.load rfl (Ld.cell ag9 (cell_keep ((hst1).get hjx) (Below.refl _ _))) rfl (.ops0 ?_))
   exact fun a ha => ⟨_, (ha).drop2 (congrArg some p2), RS.refl _ _, rfl⟩
  ·intro vals Lx w1 hRS hpre
   have hB := RS.below hRS hB (by intro p hp; simp only [List.mem_cons, List.not_mem_nil, or_false] at hp; rcases hp with rfl <;> assumption)
   have hb1 := hRS.old _ _ (by intro p hp; simp only [List.mem_cons, List.not_mem_nil, or_false] at hp; rcases hp with rfl; exact n_b1_b2) hb1
   obtain ⟨c_b2, hb2, z_b2⟩ := hRS.shape (b2, .cells #[.int .i64 5, .string x, .int .i64 0, .int .i64 0] 47) (by simp) _ _ hb2
   have hst1 := StrsAt.rs hst1 hRS (by intro p hp; simp only [List.mem_cons, List.not_mem_nil, or_false] at hp; rcases hp with rfl; exact nb_hst1_b2)
   have p3 : vals 3 = .string x := hpre 3 (by decide)
   refine .set (d := 17) (v := vals 3) rfl p3 (.build (C := #[.int .i64 5, .string x, .int .i64 0, .int .i64 0]) sd47 ze47 rfl (Bld.cons fo47_0 rfl (by first | decide | exact Nat.le_of_ble_eq_true rfl) (Bld.cons fo47_1 rfl (by first | decide | exact Nat.le_of_ble_eq_true rfl) (Bld.nil _))) rfl (.ops0 ?_))
   exact fun a ha => ⟨_, (ha).drop2 (congrArg some p3), RS.refl _ _, rfl⟩
  ·intro vals Lx w1 hRS hpre
   have hB := RS.below hRS hB (by intro p hp; simp only [List.mem_cons, List.not_mem_nil, or_false] at hp; rcases hp with rfl <;> assumption)
   have hb1 := hRS.old _ _ (by intro p hp; simp only [List.mem_cons, List.not_mem_nil, or_false] at hp; rcases hp with rfl; exact n_b1_b2) hb1
   obtain ⟨c_b2, hb2, z_b2⟩ := hRS.shape (b2, .cells #[.int .i64 5, .string x, .int .i64 0, .int .i64 0] 47) (by simp) _ _ hb2
   have hst1 := StrsAt.rs hst1 hRS (by intro p hp; simp only [List.mem_cons, List.not_mem_nil, or_false] at hp; rcases hp with rfl; exact nb_hst1_b2)
   refine .move rfl rfl (.ops0 ?_)
   exact fun a ha => ⟨_, ha, RS.refl _ _, rfl⟩
  ·intro vals Lx w1 hRS hpre
   have hB := RS.below hRS hB (by intro p hp; simp only [List.mem_cons, List.not_mem_nil, or_false] at hp; rcases hp with rfl <;> assumption)
   have hb1 := hRS.old _ _ (by intro p hp; simp only [List.mem_cons, List.not_mem_nil, or_false] at hp; rcases hp with rfl; exact n_b1_b2) hb1
   obtain ⟨c_b2, hb2, z_b2⟩ := hRS.shape (b2, .cells #[.int .i64 5, .string x, .int .i64 0, .int .i64 0] 47) (by simp) _ _ hb2
   have hst1 := StrsAt.rs hst1 hRS (by intro p hp; simp only [List.mem_cons, List.not_mem_nil, or_false] at hp; rcases hp with rfl; exact nb_hst1_b2)
   refine .move rfl rfl (.ops0 ?_)
   exact fun a ha => ⟨_, ha, RS.refl _ _, rfl⟩
  ·intro vals Lx w1 hRS hpre
   have hB := RS.below hRS hB (by intro p hp; simp only [List.mem_cons, List.not_mem_nil, or_false] at hp; rcases hp with rfl <;> assumption)
   have hb1 := hRS.old _ _ (by intro p hp; simp only [List.mem_cons, List.not_mem_nil, or_false] at hp; rcases hp with rfl; exact n_b1_b2) hb1
   obtain ⟨c_b2, hb2, z_b2⟩ := hRS.shape (b2, .cells #[.int .i64 5, .string x, .int .i64 0, .int .i64 0] 47) (by simp) _ _ hb2
   have hst1 := StrsAt.rs hst1 hRS (by intro p hp; simp only [List.mem_cons, List.not_mem_nil, or_false] at hp; rcases hp with rfl; exact nb_hst1_b2)
   have p5 : vals 5 = vs1 := hpre 5 (by decide)
   refine .set (d := 19) (v := vals 5) rfl p5 ?_
   have p6 : vals 6 = .int .i64 (j : Int) := hpre 6 (by decide)
   refine .set (d := 20) (v := vals 6) rfl p6 (.indexAddr (i := j) rfl rfl (hst1).ok (lt_of_some hjx) el29 sz9 rfl (.ops0 ?_))
   exact fun a ha => ⟨_, ((ha).drop2 (congrArg some p6)).drop2 (congrArg some p5), RS.refl _ _, rfl⟩
  ·intro vals Lx w1 hRS hpre
   have hB := RS.below hRS hB (by intro p hp; simp only [List.mem_cons, List.not_mem_nil, or_false] at hp; rcases hp with rfl <;> assumption)
   have hb1 := hRS.old _ _ (by intro p hp; simp only [List.mem_cons, List.not_mem_nil, or_false] at hp; rcases hp with rfl; exact n_b1_b2) hb1
   obtain ⟨c_b2, hb2, z_b2⟩ := hRS.shape (b2, .cells #[.int .i64 5, .string x, .int .i64 0, .int .i64 0] 47) (by simp) _ _ hb2
   have hst1 := StrsAt.rs hst1 hRS (by intro p hp; simp only [List.mem_cons, List.not_mem_nil, or_false] at hp; rcases hp with rfl; exact nb_hst1_b2)
   have p7 : vals 7 = .pointer (some ⟨vBlock vs1, vOff vs1 + j * 1, none⟩) := hpre 7 (by decide)
   refine .set (d := 21) (v := vals 7) rfl p7 (.load rfl (Ld.cell ag9 (cell_keep ((hst1).get hjx) (Below.refl _ _))) rfl (.ops0 ?_))
   exact fun a ha => ⟨_, (ha).drop2 (congrArg some p7), RS.refl _ _, rfl⟩
  ·intro vals Lx w1 hRS hpre
   have hB := RS.below hRS hB (by intro p hp; simp only [List.mem_cons, List.not_mem_nil, or_false] at hp; rcases hp with rfl <;> assumption)
   have hb1 := hRS.old _ _ (by intro p hp; simp only [List.mem_cons, List.not_mem_nil, or_false] at hp; rcases hp with rfl; exact n_b1_b2) hb1
   obtain ⟨c_b2, hb2, z_b2⟩ := hRS.shape (b2, .cells #[.int .i64 5, .string x, .int .i64 0, .int .i64 0] 47) (by simp) _ _ hb2
   have hst1 := StrsAt.rs hst1 hRS (by intro p hp; simp only [List.mem_cons, List.not_mem_nil, or_false] at hp; rcases hp with rfl; exact nb_hst1_b2)
   have p8 : vals 8 = .string x := hpre 8 (by decide)
   refine .set (d := 22) (v := vals 8) rfl p8 (.lenStr rfl st9 rfl (.ops0 ?_))
   exact fun a ha => ⟨_, (ha).drop2 (congrArg some p8), RS.refl _ _, rfl⟩
  ·intro vals Lx w1 hRS hpre
   have hB := RS.below hRS hB (by intro p hp; simp only [List.mem_cons, List.not_mem_nil, or_false] at hp; rcases hp with rfl <;> assumption)
   have hb1 := hRS.old _ _ (by intro p hp; simp only [List.mem_cons, List.not_mem_nil, or_false] at hp; rcases hp with rfl; exact n_b1_b2) hb1
   obtain ⟨c_b2, hb2, z_b2⟩ := hRS.shape (b2, .cells #[.int .i64 5, .string x, .int .i64 0, .int .i64 0] 47) (by simp) _ _ hb2
   have hst1 := StrsAt.rs hst1 hRS (by intro p hp; simp only [List.mem_cons, List.not_mem_nil, or_false] at hp; rcases hp with rfl; exact nb_hst1_b2)
   have p4 : vals 4 = .agg #[.int .i64 5, .string x, .int .i64 0, .int .i64 0] := hpre 4 (by decide)
   refine .set (d := 18) (v := vals 4) rfl p4 ?_
   have p0 : vals 0 = vs1 := hpre 0 (by decide)
   refine .set (d := 14) (v := vals 0) rfl p0 ?_
   have p1 : vals 1 = .int .i64 (j : Int) := hpre 1 (by decide)
   refine .set (d := 15) (v := vals 1) rfl p1 ?_
   have p2 : vals 2 = .pointer (some ⟨vBlock vs1, vOff vs1 + j * 1, none⟩) := hpre 2 (by decide)
   refine .set (d := 16) (v := vals 2) rfl p2 ?_
   have p3 : vals 3 = .string x := hpre 3 (by decide)
   refine .set (d := 17) (v := vals 3) rfl p3 ?_
   have hb2_old := hb2
   have z_b2_eq := ((z_b2.trans (rfl))).symm
   refine At.storeAll rfl rfl hb2 sz47 (z_b2.trans (rfl)) (by simp [Value.oneCell']) (fun w6 S2 => ?_)
   replace hb1 := S2.other hb1 n_b1_b2
   clear hst1
   replace hb2 : w6.heap[b2]? = some (.cells #[.int .i64 5, .string x, .int .i64 0, .int .i64 0] 47) := S2.new
   replace hB := S2.below' hB gb2
   refine .ops0 ?_
   exact fun a ha => ⟨undef, (((((ha).drop1 (congrArg some p3)).drop1 (congrArg some p2)).drop1 (congrArg some p1)).drop1 (congrArg some p0)).drop1 (congrArg some p4), RS.of_set S2 (by simp) hb2_old (z_b2_eq) (by intro p hp e; simp only [List.mem_cons, List.not_mem_nil, or_false] at hp; rcases hp with rfl <;> first | rfl | (exfalso; revert e; assumption) | (exfalso; exact absurd e.symm (by assumption))), hb2⟩
  ·intro vals Lx w1 hRS hpre
   have hB := RS.below hRS hB (by intro p hp; simp only [List.mem_cons, List.not_mem_nil, or_false] at hp; rcases hp with rfl <;> assumption)
   have hb1 := hRS.old _ _ (by intro p hp; simp only [List.mem_cons, List.not_mem_nil, or_false] at hp; rcases hp with rfl; exact n_b1_b2) hb1
   obtain ⟨c_b2, hb2, z_b2⟩ := hRS.shape (b2, .cells #[.int .i64 5, .string x, .int .i64 0, .int .i64 0] 47) (by simp) _ _ hb2
   have hst1 := StrsAt.rs hst1 hRS (by intro p hp; simp only [List.mem_cons, List.not_mem_nil, or_false] at hp; rcases hp with rfl; exact nb_hst1_b2)
   have p9 : vals 9 = .int .i64 (x.size : Int) := hpre 9 (by decide)
   refine .set (d := 23) (v := vals 9) rfl p9 ?_
   have p0 : vals 0 = vs1 := hpre 0 (by decide)
   refine .set (d := 14) (v := vals 0) rfl p0 ?_
   have p1 : vals 1 = .int .i64 (j : Int) := hpre 1 (by decide)
   refine .set (d := 15) (v := vals 1) rfl p1 ?_
   have p2 : vals 2 = .pointer (some ⟨vBlock vs1, vOff vs1 + j * 1, none⟩) := hpre 2 (by decide)
   refine .set (d := 16) (v := vals 2) rfl p2 ?_
   have p3 : vals 3 = .string x := hpre 3 (by decide)
   refine .set (d := 17) (v := vals 3) rfl p3 ?_
   have p4 : vals 4 = .agg #[.int .i64 5, .string x, .int .i64 0, .int .i64 0] := hpre 4 (by decide)
   refine .set (d := 18) (v := vals 4) rfl p4 ?_
   have p5 : vals 5 = vs1 := hpre 5 (by decide)
   refine .set (d := 19) (v := vals 5) rfl p5 ?_
   have p6 : vals 6 = .int .i64 (j : Int) := hpre 6 (by decide)
   refine .set (d := 20) (v := vals 6) rfl p6 ?_
   have p7 : vals 7 = .pointer (some ⟨vBlock vs1, vOff vs1 + j * 1, none⟩) := hpre 7 (by decide)
   refine .set (d := 21) (v := vals 7) rfl p7 ?_
   have p8 : vals 8 = .string x := hpre 8 (by decide)
   refine .set (d := 22) (v := vals 8) rfl p8 (.assign rfl rfl (.ops0 ?_))
   exact fun a ha => ⟨_, ((((((((((ha).drop2 (congrArg some p8)).drop2 (congrArg some p7)).drop2 (congrArg some p6)).drop2 (congrArg some p5)).drop2 (congrArg some p4)).drop2 (congrArg some p3)).drop2 (congrArg some p2)).drop2 (congrArg some p1)).drop2 (congrArg some p0)).drop2 (congrArg some p9), RS.refl _ _, rfl⟩
  ·intro vals Lx w1 hRS hpre
   have hB := RS.below hRS hB (by intro p hp; simp only [List.mem_cons, List.not_mem_nil, or_false] at hp; rcases hp with rfl <;> assumption)
   have hb1 := hRS.old _ _ (by intro p hp; simp only [List.mem_cons, List.not_mem_nil, or_false] at hp; rcases hp with rfl; exact n_b1_b2) hb1
   obtain ⟨c_b2, hb2, z_b2⟩ := hRS.shape (b2, .cells #[.int .i64 5, .string x, .int .i64 0, .int .i64 0] 47) (by simp) _ _ hb2
   have hst1 := StrsAt.rs hst1 hRS (by intro p hp; simp only [List.mem_cons, List.not_mem_nil, or_false] at hp; rcases hp with rfl; exact nb_hst1_b2)
   have p11 : vals 11 = .int .i64 (x.size : Int) := hpre 11 (by decide)
   refine .set (d := 3) (v := vals 11) rfl p11 ?_
   have p0 : vals 0 = vs1 := hpre 0 (by decide)
   refine .set (d := 14) (v := vals 0) rfl p0 ?_
   have p1 : vals 1 = .int .i64 (j : Int) := hpre 1 (by decide)
   refine .set (d := 15) (v := vals 1) rfl p1 ?_
   have p2 : vals 2 = .pointer (some ⟨vBlock vs1, vOff vs1 + j * 1, none⟩) := hpre 2 (by decide)
   refine .set (d := 16) (v := vals 2) rfl p2 ?_
   have p3 : vals 3 = .string x := hpre 3 (by decide)
   refine .set (d := 17) (v := vals 3) rfl p3 ?_
   have p4 : vals 4 = .agg #[.int .i64 5, .string x, .int .i64 0, .int .i64 0] := hpre 4 (by decide)
   refine .set (d := 18) (v := vals 4) rfl p4 ?_
   have p5 : vals 5 = vs1 := hpre 5 (by decide)
   refine .set (d := 19) (v := vals 5) rfl p5 ?_
   have p6 : vals 6 = .int .i64 (j : Int) := hpre 6 (by decide)
   refine .set (d := 20) (v := vals 6) rfl p6 ?_
   have p7 : vals 7 = .pointer (some ⟨vBlock vs1, vOff vs1 + j * 1, none⟩) := hpre 7 (by decide)
   refine .set (d := 21) (v := vals 7) rfl p7 ?_
   have p8 : vals 8 = .string x := hpre 8 (by decide)
   refine .set (d := 22) (v := vals 8) rfl p8 ?_
   have p9 : vals 9 = .int .i64 (x.size : Int) := hpre 9 (by decide)
   refine .set (d := 23) (v := vals 9) rfl p9 (.assign rfl rfl (.ops0 ?_))
   exact fun a ha => ⟨_, (((((((((((ha).drop2 (congrArg some p9)).drop2 (congrArg some p8)).drop2 (congrArg some p7)).drop2 (congrArg some p6)).drop2 (congrArg some p5)).drop2 (congrArg some p4)).drop2 (congrArg some p3)).drop2 (congrArg some p2)).drop2 (congrArg some p1)).drop2 (congrArg some p0)).drop2 (congrArg some p11), RS.refl _ _, rfl⟩
  ·skip
   have hB := RS.below hRS hB (by intro p hp; simp only [List.mem_cons, List.not_mem_nil, or_false] at hp; rcases hp with rfl <;> assumption)
   have hb1 := hRS.old _ _ (by intro p hp; simp only [List.mem_cons, List.not_mem_nil, or_false] at hp; rcases hp with rfl; exact n_b1_b2) hb1
   have hst1 := StrsAt.rs hst1 hRS (by intro p hp; simp only [List.mem_cons, List.not_mem_nil, or_false] at hp; rcases hp with rfl; exact nb_hst1_b2)
   have hb2 : w'.heap[b2]? = some (.cells #[.int .i64 5, .string x, .int .i64 0, .int .i64 0] 47) := hf 10 (by decide)
   have p11 : vals 11 = .int .i64 (x.size : Int) := hf 11 (by decide)
   have p12 : vals 12 = .bool true := hf 12 (by decide)
   refine .sub (L' := [(2, .pointer (some ⟨b2, 0, none⟩)), (5, vs1), (6, .int .i64 (j : Int)), (3, .int .i64 (x.size : Int)), (4, .bool true)]) (Sub.cons rfl (Sub.cons rfl (Sub.cons rfl (Sub.cons (congrArg some p11) (Sub.cons (congrArg some p12) Sub.nil))))) (.thenN (.retc (.doneR (ResV.cell rfl (Ld.own (C := #[.int .i64 5, .string x, .int .i64 0, .int .i64 0]) ag47 sz47 hb2) (ResV.tmp rfl (ResV.tmp rfl ResV.nil))) ?_)))
   exact ⟨congrArg Ending.returned (signV_some hfx).symm, hB⟩
end Go.Proofs.Ytkjmjnddanhapaa
