/-
 The walks of Small and of ParseNames. Written by a program of ours.
-/
import Derived.Test.YtkjmjnddanhapaaN19
import Derived.Test.YtkjmjnddanhapaaU10
set_option linter.unusedVariables false
set_option linter.unusedSimpArgs false
namespace Go.Proofs.Ytkjmjnddanhapaa
open Go.RowKit
theorem bo4 : boolB Try.prog 4 = true := by kernel_rfl
theorem en12 : entB Try.prog 12 = true := by kernel_rfl
theorem en18 : entB Try.prog 18 = true := by kernel_rfl
theorem en35 : entB Try.prog 35 = true := by kernel_rfl
theorem en36 : entB Try.prog 36 = true := by kernel_rfl
theorem en37 : entB Try.prog 37 = true := by kernel_rfl
theorem en38 : entB Try.prog 38 = true := by kernel_rfl
theorem min_lit (a b : Nat) : (if (b : Int) < (a : Int) then (b : Int) else (a : Int)) = ((min a b : Nat) : Int) := by split <;> omega
theorem any_no {α : Type} {l : List α} {p : α → Bool} {k : Nat} (hn : ∀ i x, i < k → l[i]? = some x → p x = false) (hk : l.length ≤ k) : l.any p = false := by
 rw [List.any_eq_false]
 intro x hx
 obtain ⟨i, hi⟩ := List.mem_iff_getElem?.1 hx
 rw [hn i x (by have := lt_of_some hi; omega) hi]; decide
theorem any_yes {α : Type} {l : List α} {p : α → Bool} {i : Nat} {x : α} (hx : l[i]? = some x) (h : p x = true) : l.any p = true := List.any_eq_true.2 ⟨x, List.mem_of_getElem? hx, h⟩
abbrev inL (c : UInt8) (l : List UInt8) : Bool := l.any fun x => decide ((x.toNat : Int) = (c.toNat : Int))
theorem in_dig (c : UInt8) : inL c [48, 49, 50, 51, 52, 53, 54, 55, 56, 57] = digB c := by
 have := bytes_all (p := fun c => inL c [48, 49, 50, 51, 52, 53, 54, 55, 56, 57] == digB c) (by decide +kernel) c
 simpa using this
theorem in_large (c : UInt8) : inL c [65, 66, 67, 68, 69, 70, 71, 72, 73, 74, 75, 76, 77, 78, 79, 80, 81, 82, 83, 84, 85, 86, 87, 88, 89, 90] = largB c := by
 have := bytes_all (p := fun c => inL c [65, 66, 67, 68, 69, 70, 71, 72, 73, 74, 75, 76, 77, 78, 79, 80, 81, 82, 83, 84, 85, 86, 87, 88, 89, 90] == largB c) (by decide +kernel) c
 exact beq_iff_eq.1 this
def smlB (c : UInt8) : Bool := letB c && !largB c
theorem in_sml (c : UInt8) : inL c [97, 98, 99, 100, 101, 102, 103, 104, 105, 106, 107, 108, 109, 110, 111, 112, 113, 114, 115, 116, 117, 118, 119, 120, 121, 122, 95] = smlB c := by
 have := bytes_all (p := fun c => inL c [97, 98, 99, 100, 101, 102, 103, 104, 105, 106, 107, 108, 109, 110, 111, 112, 113, 114, 115, 116, 117, 118, 119, 120, 121, 122, 95] == smlB c) (by decide +kernel) c
 exact beq_iff_eq.1 this
theorem name_3 (c : UInt8) : nameB c = (digB c || (largB c || smlB c)) := by
 have := bytes_all (p := fun c => nameB c == (digB c || (largB c || smlB c))) (by decide +kernel) c
 exact beq_iff_eq.1 this
def nmB (l : List UInt8) : Bool := match l with
 | [] => false
 | c :: w => !digB c && (c :: w).all nameB
theorem nmB_pos {l : List UInt8} (h : nmB l = true) : 0 < l.length := by cases l with
 | nil => cases h
 | cons c w => simp
theorem nmB_dig {l : List UInt8} {u : UInt8} (hu : l[0]? = some u) (h : digB u = true) : nmB l = false := by cases l with
 | nil => rfl
 | cons c w => cases hu; unfold nmB; dsimp only; rw [h]; rfl
theorem nmB_no {l : List UInt8} {u : UInt8} {i : Nat} (hu : l[i]? = some u) (h : nameB u = false) : nmB l = false := by cases l with
 | nil => rfl
 | cons c w =>
  unfold nmB; dsimp only
  have : (c :: w).all nameB = false := by rw [List.all_eq_false]; exact ⟨u, List.mem_of_getElem? hu, by rw [h]; decide⟩
  rw [this, Bool.and_false]
theorem all_of {l : List UInt8} {k : Nat} (hn : ∀ i x, i < k → l[i]? = some x → nameB x = true) (hk : l.length ≤ k) : ∀ c ∈ l, nameB c = true := fun c hc => by
 obtain ⟨i, hi⟩ := List.mem_iff_getElem?.1 hc
 exact hn i c (by have := lt_of_some hi; omega) hi
theorem nmB_yes {l : List UInt8} {u : UInt8} {k : Nat} (hu : l[0]? = some u) (h : digB u = false) (hn : ∀ i x, i < k → l[i]? = some x → nameB x = true) (hk : l.length ≤ k) : nmB l = true := by cases l with
 | nil => cases hu
 | cons c w => cases hu; unfold nmB; dsimp only; rw [h, List.all_eq_true.2 (all_of hn hk)]; rfl
theorem small_1 {l : List UInt8} (h : nmB l = false) : smallB l = false := by cases l with
 | nil => rfl
 | cons c w =>
  have h : (!digB c && (c :: w).all nameB) = false := h
  show (!digB c && ((c :: w).all nameB && _)) = false
  rw [← Bool.and_assoc, h, Bool.false_and]
theorem small_2 {l : List UInt8} {u : UInt8} (hu : l[0]? = some u) (h : largB u = true) : smallB l = false := by cases l with
 | nil => rfl
 | cons c w => cases hu; unfold smallB; dsimp only; rw [h]; simp
theorem small_3 {l : List UInt8} (h : ¬ (l.length : Int) ≤ 60) : smallB l = false := by cases l with
 | nil => rfl
 | cons c w => unfold smallB; dsimp only; rw [decide_eq_false (show ¬ w.length < 60 by simp only [List.length_cons] at h; omega)]; simp
theorem keys_mem (l : List UInt8) : memB (bs l) (wordsL.map bs) = decide (l ∈ wordsL) := by
 by_cases h : l ∈ wordsL
 ·rw [decide_eq_true h, memB_iff]; exact List.mem_map_of_mem h
 ·rw [decide_eq_false h]
  cases hm : memB (bs l) (wordsL.map bs) with
  | false => rfl
  | true =>
   obtain ⟨x, hx, he⟩ := List.mem_map.1 (memB_iff.1 hm)
   rw [bs_inj.1 he] at hx; exact absurd hx h
theorem small_4 {l : List UInt8} {u : UInt8} (h : nmB l = true) (hu : l[0]? = some u) (hL : largB u = false) (hl : (l.length : Int) ≤ 60) : smallB l = !memB (bs l) (wordsL.map bs) := by cases l with
 | nil => cases h
 | cons c w =>
  rw [← show c = u from Option.some.inj hu] at hL
  have h : (!digB c && (c :: w).all nameB) = true := h
  rw [keys_mem]
  show (!digB c && ((c :: w).all nameB && (!largB c && (decide (w.length < 60) && !decide (c :: w ∈ wordsL))))) = _
  rw [← Bool.and_assoc, h, hL, decide_eq_true (show w.length < 60 by simp only [List.length_cons] at hl; omega)]; simp
theorem step_all {l : List UInt8} {k : Nat} {u : UInt8} (hn : ∀ i x, i < k → l[i]? = some x → nameB x = true) (hu : l[k]? = some u) (h : nameB u = true) : ∀ i x, i < k + 1 → l[i]? = some x → nameB x = true := next_yes hn hu h
theorem names_facts {s : List UInt8} {p q : Pr} (hl : s.length ≤ 70) (hp : shPr p = (parseR (src1 s)).1.getD zP) (hq : shPr q = (parseR (src2 s)).1.getD zP) : smallB s = true → p.body.nm = bs s ∧ q.effs.length = 1 ∧ ∀ u, q.effs[0]? = some u → u.ops.length = 1 ∧ ∀ o, u.ops[0]? = some o → o.nm = bs s ∧ o.res.k = 4 := fun h => by
 obtain ⟨⟨a, b, e1⟩, c, e2⟩ := src_yes hl h
 rw [e1] at hp; rw [e2] at hq
 have he : q.effs.map shEff = [⟨bs [69], [⟨bs s, ⟨1, E0B⟩, ⟨4, bs [69]⟩⟩]⟩] := congrArg SPr.effs hq
 refine ⟨(shT_k p.body (show shT p.body = _ from congrArg SPr.body hp)).2.2.1, by have := congrArg List.length he; simpa using this, fun u hu => ?_⟩
 have h2 : shEff u = _ := (Option.some.inj (map_at he hu)).symm
 have h3 : u.ops.map shOp = [⟨bs s, ⟨1, E0B⟩, ⟨4, bs [69]⟩⟩] := congrArg SEff.ops h2
 refine ⟨by have := congrArg List.length h3; simpa using this, fun o ho => ?_⟩
 have h4 : shOp o = _ := (Option.some.inj (map_at h3 ho)).symm
 exact ⟨congrArg SOp.nm h4, congrArg (fun x : SOp => x.res.k) h4⟩
theorem names_errs {s : List UInt8} (hn : ∀ c ∈ s, nameB c = true) (hl : s.length ≤ 70) : decide ((parseR (src1 s)).2.2 = 0) = smallB s ∧ decide ((parseR (src2 s)).2.2 = 0) = smallB s := by
 cases h : smallB s with
 | true =>
  obtain ⟨⟨a, b, e1⟩, c, e2⟩ := src_yes hl h
  rw [e1, e2]; exact ⟨rfl, rfl⟩
 | false =>
  obtain ⟨h1, h2⟩ := src_no hn hl h
  exact ⟨decide_eq_false h1, decide_eq_false h2⟩
theorem in_any (c : UInt8) (l : List UInt8) (w : World) (hl : l.length ≤ 9223372036854775807) :
  Calls Try.prog 36 ([.int .u8 (c.toNat : Int), .string (bs l)] : List Value).toArray w fun e w' => e = .returned (.bool (inL c l)) ∧ w = w' := by
 have hB := Below.refl w.heap.size w
 refine At.enter (N := 17) Try.func36 rfl rfl (by simp) [(0, .int .u8 (c.toNat : Int)), (1, .string (bs l))] (by simp) ?_
 refine At.seq ?_
 refine At.region ?_
 refine At.assign rfl rfl ?_
 refine At.ops0 ?_
 refine At.thenN ?_
 refine At.seq ?_
 refine At.seq ?_
 refine At.region ?_
 refine At.assign rfl rfl ?_
 refine At.ops0 ?_
 refine At.thenN ?_
 refine At.block ?_
 refine At.loop (Nat) (fun k => [(0, .int .u8 (c.toNat : Int)), (1, .string (bs l)), (5, .int .i64 (k : Int))]) (fun k w1 => w = w1 ∧ (k ≤ l.length) ∧ (∀ i x, i < k → l[i]? = some x → decide ((x.toNat : Int) = (c.toNat : Int)) = false)) (fun k => l.length - k) (0 : Nat) (Sub.cons rfl (Sub.cons rfl (Sub.cons rfl Sub.nil))) ⟨rfl, (Nat.zero_le _), (fun i x hi => by omega)⟩ (fun k w1 hI => ?_)
 obtain ⟨rfl, hk, hn⟩ := hI
 show At _ _ [(0, .int .u8 (c.toNat : Int)), (1, .string (bs l)), (5, .int .i64 (k : Int))] _ _
 refine At.seq ?_
 refine At.seq ?_
 refine At.region ?_
 refine At.move rfl rfl ?_
 refine At.move rfl rfl ?_
 refine At.lenB (l := l) rfl st9 rfl ?_
 refine At.lss rfl rfl rfl ?_
 refine At.ops0 ?_
 refine At.thenN ?_
 refine At.cond (b := decide ((k : Int) < (l.length : Int))) rfl (fun hc1 => ?_) (fun hc1 => ?_)
 ·skip
  have hc1' := of_decide_eq_true hc1
  refine At.skip ?_
  refine At.thenN ?_
  refine At.seq ?_
  refine At.block ?_
  refine At.seq ?_
  refine At.region ?_
  refine At.move rfl rfl ?_
  refine At.move rfl rfl ?_
  obtain ⟨u1, hu1⟩ := some_of_lt (l := l) (i := k) (by omega)
  refine At.indexB (l := l) (i := k) rfl rfl hu1 st9 rfl ?_
  refine At.move rfl rfl ?_
  refine At.eqI rfl rfl rfl ?_
  refine At.ops0 ?_
  refine At.thenN ?_
  refine At.cond (b := decide ((u1.toNat : Int) = (c.toNat : Int))) rfl (fun hc2 => ?_) (fun hc2 => ?_)
  ·skip
   have hc2' := of_decide_eq_true hc2
   refine At.seq ?_
   refine At.region ?_
   refine At.assign rfl rfl ?_
   refine At.ops0 ?_
   refine At.thenN ?_
   refine At.retc ?_
   refine At.inR ?_
   refine At.thenR ?_
   refine At.thenR ?_
   refine At.inR ?_
   refine At.thenR ?_
   refine At.doneR (ResV.tmp rfl ResV.nil) ?_
   exact ⟨congrArg (fun b => Ending.returned (.bool b)) (any_yes hu1 hc2).symm, rfl⟩
  ·skip
   have hc2' := of_decide_eq_false hc2
   refine At.skip ?_
   refine At.inN ?_
   refine At.thenN ?_
   refine At.region ?_
   refine At.move rfl rfl ?_
   refine At.addI rfl rfl rfl (by omega) ?_
   refine At.assign rfl rfl ?_
   refine At.ops0 ?_
   refine At.thenN ?_
   exact fun act_ hact_ => ⟨(k + 1), hact_.sub (Sub.cons rfl (Sub.cons rfl (Sub.cons rfl Sub.nil))), ⟨rfl, (by omega), (next_no hn hu1 hc2)⟩, by first | omega | (dsimp only; omega)⟩
 ·skip
  have hc1' := of_decide_eq_false hc1
  refine At.exit ?_
  refine At.thenE ?_
  refine At.thenE ?_
  refine At.inE ?_
  refine At.thenN ?_
  refine At.seq ?_
  refine At.region ?_
  refine At.assign rfl rfl ?_
  refine At.ops0 ?_
  refine At.thenN ?_
  refine At.retc ?_
  refine At.doneR (ResV.tmp rfl ResV.nil) ?_
  exact ⟨congrArg (fun b => Ending.returned (.bool b)) (any_no hn (by omega)).symm, rfl⟩
theorem has_any (v : Value) (ss : List ByteArray) (s : ByteArray) (w : World) (hv : StrsAt w v ss) (hl : ss.length ≤ 9223372036854775807) :
  Calls Try.prog 37 ([v, .string s] : List Value).toArray w fun e w' => e = .returned (.bool (ss.any fun x => decide (x = s))) ∧ w = w' := by
 have hB := Below.refl w.heap.size w
 refine At.enter (N := 18) Try.func37 rfl rfl (by simp) [(0, v), (1, .string s)] (by simp) ?_
 refine At.seq ?_
 refine At.region ?_
 refine At.assign rfl rfl ?_
 refine At.ops0 ?_
 refine At.thenN ?_
 refine At.seq ?_
 refine At.seq ?_
 refine At.region ?_
 refine At.assign rfl rfl ?_
 refine At.ops0 ?_
 refine At.thenN ?_
 refine At.block ?_
 refine At.loop (Nat) (fun k => [(0, v), (1, .string s), (5, .int .i64 (k : Int))]) (fun k w1 => w = w1 ∧ (k ≤ ss.length) ∧ (∀ i x, i < k → ss[i]? = some x → decide (x = s) = false)) (fun k => ss.length - k) (0 : Nat) (Sub.cons rfl (Sub.cons rfl (Sub.cons rfl Sub.nil))) ⟨rfl, (Nat.zero_le _), (fun i x hi => by omega)⟩ (fun k w1 hI => ?_)
 obtain ⟨rfl, hk, hn⟩ := hI
 show At _ _ [(0, v), (1, .string s), (5, .int .i64 (k : Int))] _ _
 refine At.seq ?_
 refine At.seq ?_
 refine At.region ?_
 refine At.move rfl rfl ?_
 refine At.move rfl rfl ?_
 refine At.lenSl rfl hv.ok el29 rfl ?_
 refine At.lss rfl rfl rfl ?_
 refine At.ops0 ?_
 refine At.thenN ?_
 refine At.cond (b := decide ((k : Int) < (ss.length : Int))) rfl (fun hc1 => ?_) (fun hc1 => ?_)
 ·skip
  have hc1' := of_decide_eq_true hc1
  refine At.skip ?_
  refine At.thenN ?_
  refine At.seq ?_
  refine At.block ?_
  refine At.seq ?_
  refine At.region ?_
  refine At.move rfl rfl ?_
  refine At.move rfl rfl ?_
  obtain ⟨u1, hu1⟩ := some_of_lt (l := ss) (i := k) (by omega)
  refine At.indexAddr (i := k) rfl rfl hv.ok (lt_of_some hu1) el29 sz9 rfl ?_
  refine At.load rfl (Ld.cell ag9 (cell_keep ((hv).get hu1) hB)) rfl ?_
  refine At.move rfl rfl ?_
  refine At.eqS rfl rfl rfl ?_
  refine At.ops0 ?_
  refine At.thenN ?_
  refine At.cond (b := decide (u1 = s)) rfl (fun hc2 => ?_) (fun hc2 => ?_)
  ·skip
   have hc2' := of_decide_eq_true hc2
   refine At.seq ?_
   refine At.region ?_
   refine At.assign rfl rfl ?_
   refine At.ops0 ?_
   refine At.thenN ?_
   refine At.retc ?_
   refine At.inR ?_
   refine At.thenR ?_
   refine At.thenR ?_
   refine At.inR ?_
   refine At.thenR ?_
   refine At.doneR (ResV.tmp rfl ResV.nil) ?_
   exact ⟨congrArg (fun b => Ending.returned (.bool b)) (any_yes (p := fun x => decide (x = s)) hu1 hc2).symm, rfl⟩
  ·skip
   have hc2' := of_decide_eq_false hc2
   refine At.skip ?_
   refine At.inN ?_
   refine At.thenN ?_
   refine At.region ?_
   refine At.move rfl rfl ?_
   refine At.addI rfl rfl rfl (by omega) ?_
   refine At.assign rfl rfl ?_
   refine At.ops0 ?_
   refine At.thenN ?_
   exact fun act_ hact_ => ⟨(k + 1), hact_.sub (Sub.cons rfl (Sub.cons rfl (Sub.cons rfl Sub.nil))), ⟨rfl, (by omega), (next_no hn hu1 hc2)⟩, by first | omega | (dsimp only; omega)⟩
 ·skip
  have hc1' := of_decide_eq_false hc1
  refine At.exit ?_
  refine At.thenE ?_
  refine At.thenE ?_
  refine At.inE ?_
  refine At.thenN ?_
  refine At.seq ?_
  refine At.region ?_
  refine At.assign rfl rfl ?_
  refine At.ops0 ?_
  refine At.thenN ?_
  refine At.retc ?_
  refine At.doneR (ResV.tmp rfl ResV.nil) ?_
  exact ⟨congrArg (fun b => Ending.returned (.bool b)) (any_no (p := fun x => decide (x = s)) hn (by omega)).symm, rfl⟩
theorem any_mem (s : ByteArray) (ss : List ByteArray) : (ss.any fun x => decide (x = s)) = memB s ss := by
 cases h : memB s ss with
 | true => exact List.any_eq_true.2 ⟨s, memB_iff.1 h, by simp⟩
 | false =>
  rw [List.any_eq_false]
  intro x hx hd
  have e : x = s := by simpa using hd
  rw [e] at hx; rw [memB_iff.2 hx] at h; cases h
theorem keys_any  (w : World)  :
  Calls Try.prog 38 ([] : List Value).toArray w fun e w' => ∃ v, e = .returned v ∧ Below w.heap.size w w' ∧ StrsAt w' v (wordsL.map bs) := by
 have hB := Below.refl w.heap.size w
 refine At.enter (N := 2) Try.func38 rfl rfl (by simp) [] (by simp) ?_
 refine At.seq ?_
 refine At.region ?_
 refine At.assign rfl rfl ?_
 refine At.ops0 ?_
 refine At.thenN ?_
 refine At.seq ?_
 refine At.region ?_
 refine At.buildSlice (xs := [.const (.string (⟨#[102, 117, 110]⟩ : ByteArray)), .const (.string (⟨#[108, 101, 116]⟩ : ByteArray)), .const (.string (⟨#[105, 110]⟩ : ByteArray)), .const (.string (⟨#[114, 101, 99]⟩ : ByteArray)), .const (.string (⟨#[105, 102]⟩ : ByteArray)), .const (.string (⟨#[116, 104, 101, 110]⟩ : ByteArray)), .const (.string (⟨#[101, 108, 115, 101]⟩ : ByteArray)), .const (.string (⟨#[109, 97, 116, 99, 104]⟩ : ByteArray)), .const (.string (⟨#[104, 97, 110, 100, 108, 101]⟩ : ByteArray)), .const (.string (⟨#[114, 101, 116, 117, 114, 110]⟩ : ByteArray)), .const (.string (⟨#[101, 102, 102, 101, 99, 116]⟩ : ByteArray)), .const (.string (⟨#[100, 97, 116, 97]⟩ : ByteArray)), .const (.string (⟨#[112, 114, 105, 110, 116]⟩ : ByteArray)), .const (.string (⟨#[114, 101, 97, 100]⟩ : ByteArray)), .const (.string (⟨#[114, 101, 102]⟩ : ByteArray)), .const (.string (⟨#[116, 114, 117, 101]⟩ : ByteArray)), .const (.string (⟨#[102, 97, 108, 115, 101]⟩ : ByteArray)), .const (.string (⟨#[105, 110, 116]⟩ : ByteArray)), .const (.string (⟨#[98, 111, 111, 108]⟩ : ByteArray)), .const (.string (⟨#[117, 110, 105, 116]⟩ : ByteArray))]) rfl rfl el29 sz9 ze9 (by intro v hv; simp only [List.mem_cons, List.not_mem_nil, or_false] at hv; rcases hv with rfl | rfl | rfl | rfl | rfl | rfl | rfl | rfl | rfl | rfl | rfl | rfl | rfl | rfl | rfl | rfl | rfl | rfl | rfl | rfl <;> first | rfl | simp [Value.cells, Value.cells]) rfl (by decide) rfl (fun b1 w1 F1 => ?_)
 have gb1 := F1.ge hB
 have hb1 : w1.heap[b1]? = some (.cells #[.string (⟨#[102, 117, 110]⟩ : ByteArray), .string (⟨#[108, 101, 116]⟩ : ByteArray), .string (⟨#[105, 110]⟩ : ByteArray), .string (⟨#[114, 101, 99]⟩ : ByteArray), .string (⟨#[105, 102]⟩ : ByteArray), .string (⟨#[116, 104, 101, 110]⟩ : ByteArray), .string (⟨#[101, 108, 115, 101]⟩ : ByteArray), .string (⟨#[109, 97, 116, 99, 104]⟩ : ByteArray), .string (⟨#[104, 97, 110, 100, 108, 101]⟩ : ByteArray), .string (⟨#[114, 101, 116, 117, 114, 110]⟩ : ByteArray), .string (⟨#[101, 102, 102, 101, 99, 116]⟩ : ByteArray), .string (⟨#[100, 97, 116, 97]⟩ : ByteArray), .string (⟨#[112, 114, 105, 110, 116]⟩ : ByteArray), .string (⟨#[114, 101, 97, 100]⟩ : ByteArray), .string (⟨#[114, 101, 102]⟩ : ByteArray), .string (⟨#[116, 114, 117, 101]⟩ : ByteArray), .string (⟨#[102, 97, 108, 115, 101]⟩ : ByteArray), .string (⟨#[105, 110, 116]⟩ : ByteArray), .string (⟨#[98, 111, 111, 108]⟩ : ByteArray), .string (⟨#[117, 110, 105, 116]⟩ : ByteArray)] 9) := F1.new
 replace hB := F1.below' hB
 refine At.assign rfl rfl ?_
 refine At.ops0 ?_
 refine At.thenN ?_
 refine At.retc ?_
 refine At.doneR (ResV.tmp rfl ResV.nil) ?_
 exact ⟨_, rfl, hB, (StrsAt.own (ss := [(⟨#[102, 117, 110]⟩ : ByteArray), (⟨#[108, 101, 116]⟩ : ByteArray), (⟨#[105, 110]⟩ : ByteArray), (⟨#[114, 101, 99]⟩ : ByteArray), (⟨#[105, 102]⟩ : ByteArray), (⟨#[116, 104, 101, 110]⟩ : ByteArray), (⟨#[101, 108, 115, 101]⟩ : ByteArray), (⟨#[109, 97, 116, 99, 104]⟩ : ByteArray), (⟨#[104, 97, 110, 100, 108, 101]⟩ : ByteArray), (⟨#[114, 101, 116, 117, 114, 110]⟩ : ByteArray), (⟨#[101, 102, 102, 101, 99, 116]⟩ : ByteArray), (⟨#[100, 97, 116, 97]⟩ : ByteArray), (⟨#[112, 114, 105, 110, 116]⟩ : ByteArray), (⟨#[114, 101, 97, 100]⟩ : ByteArray), (⟨#[114, 101, 102]⟩ : ByteArray), (⟨#[116, 114, 117, 101]⟩ : ByteArray), (⟨#[102, 97, 108, 115, 101]⟩ : ByteArray), (⟨#[105, 110, 116]⟩ : ByteArray), (⟨#[98, 111, 111, 108]⟩ : ByteArray), (⟨#[117, 110, 105, 116]⟩ : ByteArray)]) hb1 rfl (by decide) : StrsAt _ (.slice (some ⟨b1, 0, none⟩) 20 20) [(⟨#[102, 117, 110]⟩ : ByteArray), (⟨#[108, 101, 116]⟩ : ByteArray), (⟨#[105, 110]⟩ : ByteArray), (⟨#[114, 101, 99]⟩ : ByteArray), (⟨#[105, 102]⟩ : ByteArray), (⟨#[116, 104, 101, 110]⟩ : ByteArray), (⟨#[101, 108, 115, 101]⟩ : ByteArray), (⟨#[109, 97, 116, 99, 104]⟩ : ByteArray), (⟨#[104, 97, 110, 100, 108, 101]⟩ : ByteArray), (⟨#[114, 101, 116, 117, 114, 110]⟩ : ByteArray), (⟨#[101, 102, 102, 101, 99, 116]⟩ : ByteArray), (⟨#[100, 97, 116, 97]⟩ : ByteArray), (⟨#[112, 114, 105, 110, 116]⟩ : ByteArray), (⟨#[114, 101, 97, 100]⟩ : ByteArray), (⟨#[114, 101, 102]⟩ : ByteArray), (⟨#[116, 114, 117, 101]⟩ : ByteArray), (⟨#[102, 97, 108, 115, 101]⟩ : ByteArray), (⟨#[105, 110, 116]⟩ : ByteArray), (⟨#[98, 111, 111, 108]⟩ : ByteArray), (⟨#[117, 110, 105, 116]⟩ : ByteArray)])⟩
theorem name_any_ (l : List UInt8) (w : World) (hl : l.length ≤ 9223372036854775807) :
  Calls Try.prog 35 ([.string (bs l)] : List Value).toArray w fun e w' => e = .returned (.bool (nmB l)) ∧ w = w' := by
 have hB := Below.refl w.heap.size w
 refine At.enter (N := 36) Try.func35 rfl rfl (by simp) [(0, .string (bs l))] (by simp) ?_
 refine At.seq ?_
 refine At.region ?_
 refine At.assign rfl rfl ?_
 refine At.ops0 ?_
 refine At.thenN ?_
 refine At.seq ?_
 refine At.seq ?_
 refine At.region ?_
 refine At.move rfl rfl ?_
 refine At.eqB' (a := l) (b := ([] : List UInt8)) rfl rfl rfl ?_
 refine At.move rfl rfl ?_
 refine At.cases (decide (l = ([] : List UInt8))) (fun hg1 => ?_) (fun hg1 => ?_)
 ·skip
  refine At.set (d := 6) (u := .bool true) rfl (congrArg Value.bool hg1) ?_
  have hg1' := of_decide_eq_true hg1
  refine At.no rfl rfl rfl rfl rfl rfl rfl ?_
  refine At.no rfl rfl rfl rfl rfl rfl rfl ?_
  refine At.no rfl rfl rfl rfl rfl rfl rfl ?_
  refine At.pickT rfl rfl rfl ?_
  refine At.ops0 ?_
  refine At.thenN ?_
  refine At.condT rfl ?_
  refine At.seq ?_
  refine At.region ?_
  refine At.assign rfl rfl ?_
  refine At.ops0 ?_
  refine At.thenN ?_
  refine At.retc ?_
  refine At.thenR ?_
  refine At.doneR (ResV.tmp rfl ResV.nil) ?_
  exact ⟨congrArg (fun b => Ending.returned (.bool b)) (by rw [show l = [] by simp_all]; rfl), rfl⟩
 ·skip
  refine At.set (d := 6) (u := .bool false) rfl (congrArg Value.bool hg1) ?_
  have hg1' := of_decide_eq_false hg1
  refine At.yes rfl rfl rfl rfl ?_
  refine At.move rfl rfl ?_
  refine At.yes rfl rfl rfl rfl ?_
  obtain ⟨u1, hu1⟩ := some_of_lt (l := l) (i := 0) (by first | omega | exact List.length_pos_iff.2 (by assumption))
  refine At.indexB (l := l) (i := 0) rfl rfl hu1 st9 rfl ?_
  refine At.yes rfl rfl rfl rfl ?_
  refine At.call en36 rfl rfl (in_any u1 ([48, 49, 50, 51, 52, 53, 54, 55, 56, 57] : List UInt8) _ (by decide)) (fun e w' hR => ?_)
  obtain ⟨rfl, rfl⟩ := hR
  refine ⟨_, rfl, ?_⟩
  refine At.set (d := 9) (u := .bool (digB u1)) rfl (congrArg Value.bool (in_dig u1)) ?_
  refine At.pickF rfl rfl rfl ?_
  refine At.ops0 ?_
  refine At.thenN ?_
  refine At.cond (b := (digB u1)) rfl (fun hc1 => ?_) (fun hc1 => ?_)
  ·skip
   refine At.seq ?_
   refine At.region ?_
   refine At.assign rfl rfl ?_
   refine At.ops0 ?_
   refine At.thenN ?_
   refine At.retc ?_
   refine At.thenR ?_
   refine At.doneR (ResV.tmp rfl ResV.nil) ?_
   exact ⟨congrArg (fun b => Ending.returned (.bool b)) (nmB_dig hu1 (by assumption)).symm, rfl⟩
  ·skip
   refine At.skip ?_
   refine At.thenN ?_
   refine At.seq ?_
   refine At.seq ?_
   refine At.region ?_
   refine At.assign rfl rfl ?_
   refine At.ops0 ?_
   refine At.thenN ?_
   refine At.block ?_
   refine At.loop (Nat) (fun k => [(0, .string (bs l)), (3, .int .i64 (k : Int))]) (fun k w1 => w = w1 ∧ (k ≤ l.length) ∧ (∀ i x, i < k → l[i]? = some x → nameB x = true)) (fun k => l.length - k) (0 : Nat) (Sub.cons rfl (Sub.cons rfl Sub.nil)) ⟨rfl, (Nat.zero_le _), (fun i x hi => by omega)⟩ (fun k w1 hI => ?_)
   obtain ⟨rfl, hk, hn⟩ := hI
   show At _ _ [(0, .string (bs l)), (3, .int .i64 (k : Int))] _ _
   refine At.seq ?_
   refine At.seq ?_
   refine At.region ?_
   refine At.move rfl rfl ?_
   refine At.move rfl rfl ?_
   refine At.lenB (l := l) rfl st9 rfl ?_
   refine At.lss rfl rfl rfl ?_
   refine At.ops0 ?_
   refine At.thenN ?_
   refine At.cond (b := decide ((k : Int) < (l.length : Int))) rfl (fun hc2 => ?_) (fun hc2 => ?_)
   ·skip
    have hc2' := of_decide_eq_true hc2
    refine At.skip ?_
    refine At.thenN ?_
    refine At.seq ?_
    refine At.block ?_
    refine At.seq ?_
    refine At.region ?_
    refine At.move rfl rfl ?_
    refine At.move rfl rfl ?_
    obtain ⟨u2, hu2⟩ := some_of_lt (l := l) (i := k) (by first | omega | exact List.length_pos_iff.2 (by assumption))
    refine At.indexB (l := l) (i := k) rfl rfl hu2 st9 rfl ?_
    refine At.call en36 rfl rfl (in_any u2 ([48, 49, 50, 51, 52, 53, 54, 55, 56, 57] : List UInt8) _ (by decide)) (fun e w' hR => ?_)
    obtain ⟨rfl, rfl⟩ := hR
    refine ⟨_, rfl, ?_⟩
    refine At.set (d := 20) (u := .bool (digB u2)) rfl (congrArg Value.bool (in_dig u2)) ?_
    refine At.not rfl rfl ?_
    refine At.move rfl rfl ?_
    refine At.cases ((!(digB u2))) (fun hg2 => ?_) (fun hg2 => ?_)
    ·skip
     refine At.set (d := 22) (u := .bool true) rfl (congrArg Value.bool hg2) ?_
     refine At.yes rfl rfl rfl rfl ?_
     refine At.move rfl rfl ?_
     refine At.yes rfl rfl rfl rfl ?_
     refine At.move rfl rfl ?_
     refine At.yes rfl rfl rfl rfl ?_
     refine At.indexB (l := l) (i := k) rfl rfl hu2 st9 rfl ?_
     refine At.yes rfl rfl rfl rfl ?_
     refine At.call en36 rfl rfl (in_any u2 ([65, 66, 67, 68, 69, 70, 71, 72, 73, 74, 75, 76, 77, 78, 79, 80, 81, 82, 83, 84, 85, 86, 87, 88, 89, 90] : List UInt8) _ (by decide)) (fun e w' hR => ?_)
     obtain ⟨rfl, rfl⟩ := hR
     refine ⟨_, rfl, ?_⟩
     refine At.set (d := 26) (u := .bool (largB u2)) rfl (congrArg Value.bool (in_large u2)) ?_
     refine At.yes rfl rfl rfl rfl ?_
     refine At.not rfl rfl ?_
     refine At.pickT rfl rfl rfl ?_
     refine At.move rfl rfl ?_
     refine At.cases ((!(largB u2))) (fun hg3 => ?_) (fun hg3 => ?_)
     ·skip
      refine At.set (d := 29) (u := .bool true) rfl (congrArg Value.bool hg3) ?_
      refine At.yes rfl rfl rfl rfl ?_
      refine At.move rfl rfl ?_
      refine At.yes rfl rfl rfl rfl ?_
      refine At.move rfl rfl ?_
      refine At.yes rfl rfl rfl rfl ?_
      refine At.indexB (l := l) (i := k) rfl rfl hu2 st9 rfl ?_
      refine At.yes rfl rfl rfl rfl ?_
      refine At.call en36 rfl rfl (in_any u2 ([97, 98, 99, 100, 101, 102, 103, 104, 105, 106, 107, 108, 109, 110, 111, 112, 113, 114, 115, 116, 117, 118, 119, 120, 121, 122, 95] : List UInt8) _ (by decide)) (fun e w' hR => ?_)
      obtain ⟨rfl, rfl⟩ := hR
      refine ⟨_, rfl, ?_⟩
      refine At.set (d := 33) (u := .bool (smlB u2)) rfl (congrArg Value.bool (in_sml u2)) ?_
      refine At.yes rfl rfl rfl rfl ?_
      refine At.not rfl rfl ?_
      refine At.pickT rfl rfl rfl ?_
      refine At.ops0 ?_
      refine At.thenN ?_
      refine At.cond (b := (!(smlB u2))) rfl (fun hc3 => ?_) (fun hc3 => ?_)
      ·skip
       refine At.seq ?_
       refine At.region ?_
       refine At.assign rfl rfl ?_
       refine At.ops0 ?_
       refine At.thenN ?_
       refine At.retc ?_
       refine At.inR ?_
       refine At.thenR ?_
       refine At.thenR ?_
       refine At.inR ?_
       refine At.thenR ?_
       refine At.doneR (ResV.tmp rfl ResV.nil) ?_
       exact ⟨congrArg (fun b => Ending.returned (.bool b)) (nmB_no hu2 (by rw [name_3]; simp_all)).symm, rfl⟩
      ·skip
       refine At.skip ?_
       refine At.inN ?_
       refine At.thenN ?_
       refine At.region ?_
       refine At.move rfl rfl ?_
       refine At.addI rfl rfl rfl (by first | omega | exact List.length_pos_iff.2 (by assumption)) ?_
       refine At.assign rfl rfl ?_
       refine At.ops0 ?_
       refine At.thenN ?_
       exact fun act_ hact_ => ⟨(k + 1), hact_.sub (Sub.cons rfl (Sub.cons rfl Sub.nil)), ⟨rfl, (by omega), (step_all hn hu2 (by rw [name_3]; simp_all))⟩, by first | omega | (dsimp only; omega)⟩
     ·skip
      refine At.set (d := 29) (u := .bool false) rfl (congrArg Value.bool hg3) ?_
      refine At.no rfl rfl rfl rfl rfl rfl rfl ?_
      refine At.no rfl rfl rfl rfl rfl rfl rfl ?_
      refine At.no rfl rfl rfl rfl rfl rfl rfl ?_
      refine At.no rfl rfl rfl rfl rfl rfl rfl ?_
      refine At.no rfl rfl rfl rfl rfl rfl rfl ?_
      refine At.pickF rfl rfl rfl ?_
      refine At.ops0 ?_
      refine At.thenN ?_
      refine At.condF rfl ?_
      refine At.skip ?_
      refine At.inN ?_
      refine At.thenN ?_
      refine At.region ?_
      refine At.move rfl rfl ?_
      refine At.addI rfl rfl rfl (by first | omega | exact List.length_pos_iff.2 (by assumption)) ?_
      refine At.assign rfl rfl ?_
      refine At.ops0 ?_
      refine At.thenN ?_
      exact fun act_ hact_ => ⟨(k + 1), hact_.sub (Sub.cons rfl (Sub.cons rfl Sub.nil)), ⟨rfl, (by omega), (step_all hn hu2 (by rw [name_3]; simp_all))⟩, by first | omega | (dsimp only; omega)⟩
    ·skip
     refine At.set (d := 22) (u := .bool false) rfl (congrArg Value.bool hg2) ?_
     refine At.no rfl rfl rfl rfl rfl rfl rfl ?_
     refine At.no rfl rfl rfl rfl rfl rfl rfl ?_
     refine At.no rfl rfl rfl rfl rfl rfl rfl ?_
     refine At.no rfl rfl rfl rfl rfl rfl rfl ?_
     refine At.no rfl rfl rfl rfl rfl rfl rfl ?_
     refine At.pickF rfl rfl rfl ?_
     refine At.move rfl rfl ?_
     refine At.no rfl rfl rfl rfl rfl rfl rfl ?_
     refine At.no rfl rfl rfl rfl rfl rfl rfl ?_
     refine At.no rfl rfl rfl rfl rfl rfl rfl ?_
     refine At.no rfl rfl rfl rfl rfl rfl rfl ?_
     refine At.no rfl rfl rfl rfl rfl rfl rfl ?_
     refine At.pickF rfl rfl rfl ?_
     refine At.ops0 ?_
     refine At.thenN ?_
     refine At.condF rfl ?_
     refine At.skip ?_
     refine At.inN ?_
     refine At.thenN ?_
     refine At.region ?_
     refine At.move rfl rfl ?_
     refine At.addI rfl rfl rfl (by first | omega | exact List.length_pos_iff.2 (by assumption)) ?_
     refine At.assign rfl rfl ?_
     refine At.ops0 ?_
     refine At.thenN ?_
     exact fun act_ hact_ => ⟨(k + 1), hact_.sub (Sub.cons rfl (Sub.cons rfl Sub.nil)), ⟨rfl, (by omega), (step_all hn hu2 (by rw [name_3]; simp_all))⟩, by first | omega | (dsimp only; omega)⟩
   ·skip
    have hc2' := of_decide_eq_false hc2
    refine At.exit ?_
    refine At.thenE ?_
    refine At.thenE ?_
    refine At.inE ?_
    refine At.thenN ?_
    refine At.seq ?_
    refine At.region ?_
    refine At.assign rfl rfl ?_
    refine At.ops0 ?_
    refine At.thenN ?_
    refine At.retc ?_
    refine At.doneR (ResV.tmp rfl ResV.nil) ?_
    exact ⟨congrArg (fun b => Ending.returned (.bool b)) (nmB_yes hu1 (by simp_all) hn (by omega)).symm, rfl⟩
theorem small_any (l : List UInt8) (w : World) (hl : l.length ≤ 9223372036854775807) :
  Calls Try.prog 18 ([.string (bs l)] : List Value).toArray w fun e w' => e = .returned (.bool (smallB l)) ∧ Below w.heap.size w w' := by
 have hB := Below.refl w.heap.size w
 refine At.enter (N := 24) Try.func18 rfl rfl (by simp) [(0, .string (bs l))] (by simp) ?_
 refine At.seq ?_
 refine At.region ?_
 refine At.assign rfl rfl ?_
 refine At.ops0 ?_
 refine At.thenN ?_
 refine At.seq ?_
 refine At.region ?_
 refine At.move rfl rfl ?_
 refine At.call en35 rfl rfl (name_any_ l _ (by omega)) (fun e w' hR => ?_)
 obtain ⟨rfl, rfl⟩ := hR
 refine ⟨_, rfl, ?_⟩
 refine At.assign rfl rfl ?_
 refine At.ops0 ?_
 refine At.thenN ?_
 refine At.seq ?_
 refine At.region ?_
 refine At.move rfl rfl ?_
 refine At.move rfl rfl ?_
 refine At.cases ((nmB l)) (fun hg1 => ?_) (fun hg1 => ?_)
 ·skip
  refine At.set (d := 7) (u := .bool true) rfl (congrArg Value.bool hg1) ?_
  refine At.yes rfl rfl rfl rfl ?_
  refine At.move rfl rfl ?_
  refine At.yes rfl rfl rfl rfl ?_
  obtain ⟨u1, hu1⟩ := some_of_lt (l := l) (i := 0) (by first | omega | exact nmB_pos (by assumption))
  refine At.indexB (l := l) (i := 0) rfl rfl hu1 st9 rfl ?_
  refine At.yes rfl rfl rfl rfl ?_
  refine At.call en36 rfl rfl (in_any u1 ([65, 66, 67, 68, 69, 70, 71, 72, 73, 74, 75, 76, 77, 78, 79, 80, 81, 82, 83, 84, 85, 86, 87, 88, 89, 90] : List UInt8) _ (by decide)) (fun e w' hR => ?_)
  obtain ⟨rfl, rfl⟩ := hR
  refine ⟨_, rfl, ?_⟩
  refine At.set (d := 10) (u := .bool (largB u1)) rfl (congrArg Value.bool (in_large u1)) ?_
  refine At.yes rfl rfl rfl rfl ?_
  refine At.not rfl rfl ?_
  refine At.pickT rfl rfl rfl ?_
  refine At.move rfl rfl ?_
  refine At.cases ((!(largB u1))) (fun hg2 => ?_) (fun hg2 => ?_)
  ·skip
   refine At.set (d := 13) (u := .bool true) rfl (congrArg Value.bool hg2) ?_
   refine At.yes rfl rfl rfl rfl ?_
   refine At.move rfl rfl ?_
   refine At.yes rfl rfl rfl rfl ?_
   refine At.lenB (l := l) rfl st9 rfl ?_
   refine At.yes rfl rfl rfl rfl ?_
   refine At.leq rfl rfl rfl ?_
   refine At.pickT rfl rfl rfl ?_
   refine At.move rfl rfl ?_
   refine At.cases (decide ((l.length : Int) ≤ 60)) (fun hg3 => ?_) (fun hg3 => ?_)
   ·skip
    refine At.set (d := 18) (u := .bool true) rfl (congrArg Value.bool hg3) ?_
    have hg3' := of_decide_eq_true hg3
    refine At.yes rfl rfl rfl rfl ?_
    refine At.call en38 rfl rfl (keys_any _) (fun e w1 hR => ?_)
    obtain ⟨vk, rfl, hbl1, hks⟩ := hR
    refine ⟨_, rfl, ?_⟩
    replace hB := Below.andThen hB hbl1
    refine At.yes rfl rfl rfl rfl ?_
    refine At.move rfl rfl ?_
    refine At.yes rfl rfl rfl rfl ?_
    refine At.call en37 rfl rfl (has_any vk (wordsL.map bs) (bs l) _ hks (by decide)) (fun e w' hR => ?_)
    obtain ⟨rfl, rfl⟩ := hR
    refine ⟨_, rfl, ?_⟩
    refine At.set (d := 21) (u := .bool (memB (bs l) (wordsL.map bs))) rfl (congrArg Value.bool (any_mem _ _)) ?_
    refine At.yes rfl rfl rfl rfl ?_
    refine At.not rfl rfl ?_
    refine At.pickT rfl rfl rfl ?_
    refine At.assign rfl rfl ?_
    refine At.ops0 ?_
    refine At.thenN ?_
    refine At.retc ?_
    refine At.doneR (ResV.tmp rfl ResV.nil) ?_
    exact ⟨congrArg (fun b => Ending.returned (.bool b)) ((small_4 hg1 hu1 (by simpa using hg2) hg3').symm), hB⟩
   ·skip
    refine At.set (d := 18) (u := .bool false) rfl (congrArg Value.bool hg3) ?_
    have hg3' := of_decide_eq_false hg3
    refine At.no rfl rfl rfl rfl rfl rfl rfl ?_
    refine At.no rfl rfl rfl rfl rfl rfl rfl ?_
    refine At.no rfl rfl rfl rfl rfl rfl rfl ?_
    refine At.no rfl rfl rfl rfl rfl rfl rfl ?_
    refine At.pickF rfl rfl rfl ?_
    refine At.assign rfl rfl ?_
    refine At.ops0 ?_
    refine At.thenN ?_
    refine At.retc ?_
    refine At.doneR (ResV.tmp rfl ResV.nil) ?_
    exact ⟨congrArg (fun b => Ending.returned (.bool b)) ((small_3 hg3').symm), hB⟩
  ·skip
   refine At.set (d := 13) (u := .bool false) rfl (congrArg Value.bool hg2) ?_
   refine At.no rfl rfl rfl rfl rfl rfl rfl ?_
   refine At.no rfl rfl rfl rfl rfl rfl rfl ?_
   refine At.no rfl rfl rfl rfl rfl rfl rfl ?_
   refine At.pickF rfl rfl rfl ?_
   refine At.move rfl rfl ?_
   refine At.no rfl rfl rfl rfl rfl rfl rfl ?_
   refine At.no rfl rfl rfl rfl rfl rfl rfl ?_
   refine At.no rfl rfl rfl rfl rfl rfl rfl ?_
   refine At.no rfl rfl rfl rfl rfl rfl rfl ?_
   refine At.pickF rfl rfl rfl ?_
   refine At.assign rfl rfl ?_
   refine At.ops0 ?_
   refine At.thenN ?_
   refine At.retc ?_
   refine At.doneR (ResV.tmp rfl ResV.nil) ?_
   exact ⟨congrArg (fun b => Ending.returned (.bool b)) ((small_2 hu1 (by simpa using hg2)).symm), hB⟩
 ·skip
  refine At.set (d := 7) (u := .bool false) rfl (congrArg Value.bool hg1) ?_
  refine At.no rfl rfl rfl rfl rfl rfl rfl ?_
  refine At.no rfl rfl rfl rfl rfl rfl rfl ?_
  refine At.no rfl rfl rfl rfl rfl rfl rfl ?_
  refine At.no rfl rfl rfl rfl rfl rfl rfl ?_
  refine At.pickF rfl rfl rfl ?_
  refine At.move rfl rfl ?_
  refine At.no rfl rfl rfl rfl rfl rfl rfl ?_
  refine At.no rfl rfl rfl rfl rfl rfl rfl ?_
  refine At.no rfl rfl rfl rfl rfl rfl rfl ?_
  refine At.pickF rfl rfl rfl ?_
  refine At.move rfl rfl ?_
  refine At.no rfl rfl rfl rfl rfl rfl rfl ?_
  refine At.no rfl rfl rfl rfl rfl rfl rfl ?_
  refine At.no rfl rfl rfl rfl rfl rfl rfl ?_
  refine At.no rfl rfl rfl rfl rfl rfl rfl ?_
  refine At.pickF rfl rfl rfl ?_
  refine At.assign rfl rfl ?_
  refine At.ops0 ?_
  refine At.thenN ?_
  refine At.retc ?_
  refine At.doneR (ResV.tmp rfl ResV.nil) ?_
  exact ⟨congrArg (fun b => Ending.returned (.bool b)) ((small_1 hg1).symm), hB⟩
theorem namesL_any (l : List UInt8) (m : Int) (w : World) (hm : w.cell? ⟨0, 0, none⟩ = some (.int .i64 m)) :
  Calls Try.prog 6 ([.string (bs l)] : List Value).toArray w fun e w' => e = .returned (.bool true) ∧ Below w.heap.size w w' := by
 have hB := Below.refl w.heap.size w
 refine At.enter (N := 136) Try.func6 rfl rfl (by simp) [(0, .string (bs l))] (by simp) ?_
 refine At.seq ?_
 refine At.region ?_
 refine At.assign rfl rfl ?_
 refine At.ops0 ?_
 refine At.thenN ?_
 refine At.seq ?_
 refine At.region ?_
 refine At.call en12 rfl rfl (shown_any m _ (cell_keep hm hB)) (fun e w1 hR => ?_)
 obtain ⟨rfl, hbl1⟩ := hR
 refine ⟨_, rfl, ?_⟩
 replace hB := Below.andThen hB hbl1
 refine At.assign rfl rfl ?_
 refine At.ops0 ?_
 refine At.thenN ?_
 refine At.seq ?_
 refine At.region ?_
 refine At.move rfl rfl ?_
 refine At.move rfl rfl ?_
 refine At.lenB (l := l) rfl st9 rfl ?_
 refine At.minI rfl rfl rfl ?_
 refine At.set (d := 17) (u := .int .i64 (((min l.length 70) : Nat) : Int)) rfl (congrArg (Value.int .i64) (min_lit _ _)) ?_
 have hle1 : (min l.length 70) ≤ l.length := by first | omega | (have q := (y3 _ ‹_›).1; omega)
 refine At.takeB (l := l) (h := (min l.length 70)) rfl rfl st9 hle1 rfl ?_
 refine At.assign rfl rfl ?_
 refine At.ops0 ?_
 refine At.thenN ?_
 refine At.seq ?_
 obtain ⟨s, hs, hsl⟩ : ∃ s : List UInt8, l.take (min l.length 70) = s ∧ s.length ≤ 70 := ⟨_, rfl, by simp only [List.length_take]; omega⟩
 refine At.set (d := 0) (u := .string (bs s)) rfl (congrArg Value.string (by rw [hs])) ?_
 refine At.region ?_
 refine At.move rfl rfl ?_
 refine At.call en18 rfl rfl (small_any s _ (by omega)) (fun e w2 hR => ?_)
 obtain ⟨rfl, hbl2⟩ := hR
 refine ⟨_, rfl, ?_⟩
 replace hB := Below.andThen hB hbl2
 refine At.assign rfl rfl ?_
 refine At.ops0 ?_
 refine At.thenN ?_
 refine At.seq ?_
 refine At.seq ?_
 refine At.region ?_
 refine At.assign rfl rfl ?_
 refine At.ops0 ?_
 refine At.thenN ?_
 refine At.block ?_
 refine At.loop (Nat) (fun k => [(0, .string (bs s)), (3, .bool true), (4, .bool (smallB s)), (5, .int .i64 (k : Int))]) (fun k w3 => w2 = w3 ∧ (k ≤ s.length) ∧ (∀ i x, i < k → s[i]? = some x → nameB x = true)) (fun k => s.length - k) (0 : Nat) (Sub.cons rfl (Sub.cons rfl (Sub.cons rfl (Sub.cons rfl Sub.nil)))) ⟨rfl, (Nat.zero_le _), (fun i x hi => by omega)⟩ (fun k w3 hI => ?_)
 obtain ⟨rfl, hk, hn⟩ := hI
 show At _ _ [(0, .string (bs s)), (3, .bool true), (4, .bool (smallB s)), (5, .int .i64 (k : Int))] _ _
 refine At.seq ?_
 refine At.seq ?_
 refine At.region ?_
 refine At.move rfl rfl ?_
 refine At.move rfl rfl ?_
 refine At.lenB (l := s) rfl st9 rfl ?_
 refine At.lss rfl rfl rfl ?_
 refine At.ops0 ?_
 refine At.thenN ?_
 refine At.cond (b := decide ((k : Int) < (s.length : Int))) rfl (fun hc1 => ?_) (fun hc1 => ?_)
 ·skip
  have hc1' := of_decide_eq_true hc1
  refine At.skip ?_
  refine At.thenN ?_
  refine At.seq ?_
  refine At.block ?_
  refine At.seq ?_
  refine At.region ?_
  refine At.move rfl rfl ?_
  refine At.move rfl rfl ?_
  obtain ⟨u1, hu1⟩ := some_of_lt (l := s) (i := k) (by first | omega | (have q := (y3 _ ‹_›).1; omega))
  refine At.indexB (l := s) (i := k) rfl rfl hu1 st9 rfl ?_
  refine At.assign rfl rfl ?_
  refine At.ops0 ?_
  refine At.thenN ?_
  refine At.seq ?_
  refine At.region ?_
  refine At.move rfl rfl ?_
  refine At.neI rfl rfl rfl ?_
  refine At.move rfl rfl ?_
  refine At.cases ((!decide ((u1.toNat : Int) = 95))) (fun hg1 => ?_) (fun hg1 => ?_)
  ·skip
   refine At.set (d := 32) (u := .bool true) rfl (congrArg Value.bool hg1) ?_
   have hg1' := hg1; simp only [Bool.not_eq_true', Bool.not_eq_false', decide_eq_true_eq, decide_eq_false_iff_not] at hg1'
   refine At.yes rfl rfl rfl rfl ?_
   refine At.move rfl rfl ?_
   refine At.yes rfl rfl rfl rfl ?_
   refine At.lss rfl rfl rfl ?_
   refine At.yes rfl rfl rfl rfl ?_
   refine At.move rfl rfl ?_
   refine At.cases (decide ((u1.toNat : Int) < 48)) (fun hg2 => ?_) (fun hg2 => ?_)
   ·skip
    refine At.set (d := 35) (u := .bool true) rfl (congrArg Value.bool hg2) ?_
    have hg2' := of_decide_eq_true hg2
    refine At.no rfl rfl rfl rfl rfl rfl rfl ?_
    refine At.no rfl rfl rfl rfl rfl rfl rfl ?_
    refine At.yes rfl rfl rfl rfl ?_
    refine At.pickT rfl rfl rfl ?_
    refine At.pickT rfl rfl rfl ?_
    refine At.move rfl rfl ?_
    refine At.yes rfl rfl rfl rfl ?_
    refine At.move rfl rfl ?_
    refine At.yes rfl rfl rfl rfl ?_
    refine At.lss rfl rfl rfl ?_
    refine At.yes rfl rfl rfl rfl ?_
    refine At.move rfl rfl ?_
    refine At.cases (decide ((u1.toNat : Int) < 65)) (fun hg3 => ?_) (fun hg3 => ?_)
    ·skip
     refine At.set (d := 43) (u := .bool true) rfl (congrArg Value.bool hg3) ?_
     have hg3' := of_decide_eq_true hg3
     refine At.no rfl rfl rfl rfl rfl rfl rfl ?_
     refine At.no rfl rfl rfl rfl rfl rfl rfl ?_
     refine At.yes rfl rfl rfl rfl ?_
     refine At.pickT rfl rfl rfl ?_
     refine At.pickT rfl rfl rfl ?_
     refine At.move rfl rfl ?_
     refine At.yes rfl rfl rfl rfl ?_
     refine At.move rfl rfl ?_
     refine At.yes rfl rfl rfl rfl ?_
     refine At.lss rfl rfl rfl ?_
     refine At.yes rfl rfl rfl rfl ?_
     refine At.move rfl rfl ?_
     refine At.cases (decide ((u1.toNat : Int) < 97)) (fun hg4 => ?_) (fun hg4 => ?_)
     ·skip
      refine At.set (d := 51) (u := .bool true) rfl (congrArg Value.bool hg4) ?_
      have hg4' := of_decide_eq_true hg4
      refine At.no rfl rfl rfl rfl rfl rfl rfl ?_
      refine At.no rfl rfl rfl rfl rfl rfl rfl ?_
      refine At.yes rfl rfl rfl rfl ?_
      refine At.pickT rfl rfl rfl ?_
      refine At.pickT rfl rfl rfl ?_
      refine At.ops0 ?_
      refine At.thenN ?_
      refine At.condT rfl ?_
      refine At.seq ?_
      refine At.region ?_
      refine At.move rfl rfl ?_
      refine At.assign rfl rfl ?_
      refine At.ops0 ?_
      refine At.thenN ?_
      refine At.retc ?_
      refine At.inR ?_
      refine At.thenR ?_
      refine At.thenR ?_
      refine At.inR ?_
      refine At.thenR ?_
      refine At.doneR (ResV.tmp rfl ResV.nil) ?_
      exact ⟨rfl, hB⟩
     ·skip
      refine At.set (d := 51) (u := .bool false) rfl (congrArg Value.bool hg4) ?_
      have hg4' := of_decide_eq_false hg4
      refine At.yes rfl rfl rfl rfl ?_
      refine At.move rfl rfl ?_
      refine At.yes rfl rfl rfl rfl ?_
      refine At.gtr rfl rfl rfl ?_
      refine At.yes rfl rfl rfl rfl ?_
      refine At.pickF rfl rfl rfl ?_
      refine At.pickT rfl rfl rfl ?_
      refine At.ops0 ?_
      refine At.thenN ?_
      refine At.cond (b := decide (122 < (u1.toNat : Int))) rfl (fun hc2 => ?_) (fun hc2 => ?_)
      ·skip
       have hc2' := of_decide_eq_true hc2
       refine At.seq ?_
       refine At.region ?_
       refine At.move rfl rfl ?_
       refine At.assign rfl rfl ?_
       refine At.ops0 ?_
       refine At.thenN ?_
       refine At.retc ?_
       refine At.inR ?_
       refine At.thenR ?_
       refine At.thenR ?_
       refine At.inR ?_
       refine At.thenR ?_
       refine At.doneR (ResV.tmp rfl ResV.nil) ?_
       exact ⟨rfl, hB⟩
      ·skip
       have hc2' := of_decide_eq_false hc2
       refine At.skip ?_
       refine At.inN ?_
       refine At.thenN ?_
       refine At.region ?_
       refine At.move rfl rfl ?_
       refine At.addI rfl rfl rfl (by first | omega | (have q := (y3 _ ‹_›).1; omega)) ?_
       refine At.assign rfl rfl ?_
       refine At.ops0 ?_
       refine At.thenN ?_
       exact fun act_ hact_ => ⟨(k + 1), hact_.sub (Sub.cons rfl (Sub.cons rfl (Sub.cons rfl (Sub.cons rfl Sub.nil)))), ⟨rfl, (by omega), (step_all hn hu1 (by simp only [nameB, letB, largB, digB, Bool.or_eq_true, Bool.and_eq_true, decide_eq_true_eq]; omega))⟩, by first | omega | (dsimp only; omega)⟩
    ·skip
     refine At.set (d := 43) (u := .bool false) rfl (congrArg Value.bool hg3) ?_
     have hg3' := of_decide_eq_false hg3
     refine At.yes rfl rfl rfl rfl ?_
     refine At.move rfl rfl ?_
     refine At.yes rfl rfl rfl rfl ?_
     refine At.gtr rfl rfl rfl ?_
     refine At.yes rfl rfl rfl rfl ?_
     refine At.pickF rfl rfl rfl ?_
     refine At.pickT rfl rfl rfl ?_
     refine At.move rfl rfl ?_
     refine At.cases (decide (90 < (u1.toNat : Int))) (fun hg5 => ?_) (fun hg5 => ?_)
     ·skip
      refine At.set (d := 48) (u := .bool true) rfl (congrArg Value.bool hg5) ?_
      have hg5' := of_decide_eq_true hg5
      refine At.yes rfl rfl rfl rfl ?_
      refine At.move rfl rfl ?_
      refine At.yes rfl rfl rfl rfl ?_
      refine At.lss rfl rfl rfl ?_
      refine At.yes rfl rfl rfl rfl ?_
      refine At.move rfl rfl ?_
      refine At.cases (decide ((u1.toNat : Int) < 97)) (fun hg6 => ?_) (fun hg6 => ?_)
      ·skip
       refine At.set (d := 51) (u := .bool true) rfl (congrArg Value.bool hg6) ?_
       have hg6' := of_decide_eq_true hg6
       refine At.no rfl rfl rfl rfl rfl rfl rfl ?_
       refine At.no rfl rfl rfl rfl rfl rfl rfl ?_
       refine At.yes rfl rfl rfl rfl ?_
       refine At.pickT rfl rfl rfl ?_
       refine At.pickT rfl rfl rfl ?_
       refine At.ops0 ?_
       refine At.thenN ?_
       refine At.condT rfl ?_
       refine At.seq ?_
       refine At.region ?_
       refine At.move rfl rfl ?_
       refine At.assign rfl rfl ?_
       refine At.ops0 ?_
       refine At.thenN ?_
       refine At.retc ?_
       refine At.inR ?_
       refine At.thenR ?_
       refine At.thenR ?_
       refine At.inR ?_
       refine At.thenR ?_
       refine At.doneR (ResV.tmp rfl ResV.nil) ?_
       exact ⟨rfl, hB⟩
      ·skip
       refine At.set (d := 51) (u := .bool false) rfl (congrArg Value.bool hg6) ?_
       have hg6' := of_decide_eq_false hg6
       refine At.yes rfl rfl rfl rfl ?_
       refine At.move rfl rfl ?_
       refine At.yes rfl rfl rfl rfl ?_
       refine At.gtr rfl rfl rfl ?_
       refine At.yes rfl rfl rfl rfl ?_
       refine At.pickF rfl rfl rfl ?_
       refine At.pickT rfl rfl rfl ?_
       refine At.ops0 ?_
       refine At.thenN ?_
       refine At.cond (b := decide (122 < (u1.toNat : Int))) rfl (fun hc3 => ?_) (fun hc3 => ?_)
       ·skip
        have hc3' := of_decide_eq_true hc3
        refine At.seq ?_
        refine At.region ?_
        refine At.move rfl rfl ?_
        refine At.assign rfl rfl ?_
        refine At.ops0 ?_
        refine At.thenN ?_
        refine At.retc ?_
        refine At.inR ?_
        refine At.thenR ?_
        refine At.thenR ?_
        refine At.inR ?_
        refine At.thenR ?_
        refine At.doneR (ResV.tmp rfl ResV.nil) ?_
        exact ⟨rfl, hB⟩
       ·skip
        have hc3' := of_decide_eq_false hc3
        refine At.skip ?_
        refine At.inN ?_
        refine At.thenN ?_
        refine At.region ?_
        refine At.move rfl rfl ?_
        refine At.addI rfl rfl rfl (by first | omega | (have q := (y3 _ ‹_›).1; omega)) ?_
        refine At.assign rfl rfl ?_
        refine At.ops0 ?_
        refine At.thenN ?_
        exact fun act_ hact_ => ⟨(k + 1), hact_.sub (Sub.cons rfl (Sub.cons rfl (Sub.cons rfl (Sub.cons rfl Sub.nil)))), ⟨rfl, (by omega), (step_all hn hu1 (by simp only [nameB, letB, largB, digB, Bool.or_eq_true, Bool.and_eq_true, decide_eq_true_eq]; omega))⟩, by first | omega | (dsimp only; omega)⟩
     ·skip
      refine At.set (d := 48) (u := .bool false) rfl (congrArg Value.bool hg5) ?_
      have hg5' := of_decide_eq_false hg5
      refine At.no rfl rfl rfl rfl rfl rfl rfl ?_
      refine At.no rfl rfl rfl rfl rfl rfl rfl ?_
      refine At.no rfl rfl rfl rfl rfl rfl rfl ?_
      refine At.noU rfl rfl rfl rfl rfl rfl ?_
      refine At.noU rfl rfl rfl rfl rfl rfl ?_
      refine At.no rfl rfl rfl rfl rfl rfl rfl ?_
      refine At.pickF rfl rfl rfl ?_
      refine At.ops0 ?_
      refine At.thenN ?_
      refine At.condF rfl ?_
      refine At.skip ?_
      refine At.inN ?_
      refine At.thenN ?_
      refine At.region ?_
      refine At.move rfl rfl ?_
      refine At.addI rfl rfl rfl (by first | omega | (have q := (y3 _ ‹_›).1; omega)) ?_
      refine At.assign rfl rfl ?_
      refine At.ops0 ?_
      refine At.thenN ?_
      exact fun act_ hact_ => ⟨(k + 1), hact_.sub (Sub.cons rfl (Sub.cons rfl (Sub.cons rfl (Sub.cons rfl Sub.nil)))), ⟨rfl, (by omega), (step_all hn hu1 (by simp only [nameB, letB, largB, digB, Bool.or_eq_true, Bool.and_eq_true, decide_eq_true_eq]; omega))⟩, by first | omega | (dsimp only; omega)⟩
   ·skip
    refine At.set (d := 35) (u := .bool false) rfl (congrArg Value.bool hg2) ?_
    have hg2' := of_decide_eq_false hg2
    refine At.yes rfl rfl rfl rfl ?_
    refine At.move rfl rfl ?_
    refine At.yes rfl rfl rfl rfl ?_
    refine At.gtr rfl rfl rfl ?_
    refine At.yes rfl rfl rfl rfl ?_
    refine At.pickF rfl rfl rfl ?_
    refine At.pickT rfl rfl rfl ?_
    refine At.move rfl rfl ?_
    refine At.cases (decide (57 < (u1.toNat : Int))) (fun hg7 => ?_) (fun hg7 => ?_)
    ·skip
     refine At.set (d := 40) (u := .bool true) rfl (congrArg Value.bool hg7) ?_
     have hg7' := of_decide_eq_true hg7
     refine At.yes rfl rfl rfl rfl ?_
     refine At.move rfl rfl ?_
     refine At.yes rfl rfl rfl rfl ?_
     refine At.lss rfl rfl rfl ?_
     refine At.yes rfl rfl rfl rfl ?_
     refine At.move rfl rfl ?_
     refine At.cases (decide ((u1.toNat : Int) < 65)) (fun hg8 => ?_) (fun hg8 => ?_)
     ·skip
      refine At.set (d := 43) (u := .bool true) rfl (congrArg Value.bool hg8) ?_
      have hg8' := of_decide_eq_true hg8
      refine At.no rfl rfl rfl rfl rfl rfl rfl ?_
      refine At.no rfl rfl rfl rfl rfl rfl rfl ?_
      refine At.yes rfl rfl rfl rfl ?_
      refine At.pickT rfl rfl rfl ?_
      refine At.pickT rfl rfl rfl ?_
      refine At.move rfl rfl ?_
      refine At.yes rfl rfl rfl rfl ?_
      refine At.move rfl rfl ?_
      refine At.yes rfl rfl rfl rfl ?_
      refine At.lss rfl rfl rfl ?_
      refine At.yes rfl rfl rfl rfl ?_
      refine At.move rfl rfl ?_
      refine At.cases (decide ((u1.toNat : Int) < 97)) (fun hg9 => ?_) (fun hg9 => ?_)
      ·skip
       refine At.set (d := 51) (u := .bool true) rfl (congrArg Value.bool hg9) ?_
       have hg9' := of_decide_eq_true hg9
       refine At.no rfl rfl rfl rfl rfl rfl rfl ?_
       refine At.no rfl rfl rfl rfl rfl rfl rfl ?_
       refine At.yes rfl rfl rfl rfl ?_
       refine At.pickT rfl rfl rfl ?_
       refine At.pickT rfl rfl rfl ?_
       refine At.ops0 ?_
       refine At.thenN ?_
       refine At.condT rfl ?_
       refine At.seq ?_
       refine At.region ?_
       refine At.move rfl rfl ?_
       refine At.assign rfl rfl ?_
       refine At.ops0 ?_
       refine At.thenN ?_
       refine At.retc ?_
       refine At.inR ?_
       refine At.thenR ?_
       refine At.thenR ?_
       refine At.inR ?_
       refine At.thenR ?_
       refine At.doneR (ResV.tmp rfl ResV.nil) ?_
       exact ⟨rfl, hB⟩
      ·skip
       refine At.set (d := 51) (u := .bool false) rfl (congrArg Value.bool hg9) ?_
       have hg9' := of_decide_eq_false hg9
       refine At.yes rfl rfl rfl rfl ?_
       refine At.move rfl rfl ?_
       refine At.yes rfl rfl rfl rfl ?_
       refine At.gtr rfl rfl rfl ?_
       refine At.yes rfl rfl rfl rfl ?_
       refine At.pickF rfl rfl rfl ?_
       refine At.pickT rfl rfl rfl ?_
       refine At.ops0 ?_
       refine At.thenN ?_
       refine At.cond (b := decide (122 < (u1.toNat : Int))) rfl (fun hc4 => ?_) (fun hc4 => ?_)
       ·skip
        have hc4' := of_decide_eq_true hc4
        refine At.seq ?_
        refine At.region ?_
        refine At.move rfl rfl ?_
        refine At.assign rfl rfl ?_
        refine At.ops0 ?_
        refine At.thenN ?_
        refine At.retc ?_
        refine At.inR ?_
        refine At.thenR ?_
        refine At.thenR ?_
        refine At.inR ?_
        refine At.thenR ?_
        refine At.doneR (ResV.tmp rfl ResV.nil) ?_
        exact ⟨rfl, hB⟩
       ·skip
        have hc4' := of_decide_eq_false hc4
        refine At.skip ?_
        refine At.inN ?_
        refine At.thenN ?_
        refine At.region ?_
        refine At.move rfl rfl ?_
        refine At.addI rfl rfl rfl (by first | omega | (have q := (y3 _ ‹_›).1; omega)) ?_
        refine At.assign rfl rfl ?_
        refine At.ops0 ?_
        refine At.thenN ?_
        exact fun act_ hact_ => ⟨(k + 1), hact_.sub (Sub.cons rfl (Sub.cons rfl (Sub.cons rfl (Sub.cons rfl Sub.nil)))), ⟨rfl, (by omega), (step_all hn hu1 (by simp only [nameB, letB, largB, digB, Bool.or_eq_true, Bool.and_eq_true, decide_eq_true_eq]; omega))⟩, by first | omega | (dsimp only; omega)⟩
     ·skip
      refine At.set (d := 43) (u := .bool false) rfl (congrArg Value.bool hg8) ?_
      have hg8' := of_decide_eq_false hg8
      refine At.yes rfl rfl rfl rfl ?_
      refine At.move rfl rfl ?_
      refine At.yes rfl rfl rfl rfl ?_
      refine At.gtr rfl rfl rfl ?_
      refine At.yes rfl rfl rfl rfl ?_
      refine At.pickF rfl rfl rfl ?_
      refine At.pickT rfl rfl rfl ?_
      refine At.move rfl rfl ?_
      refine At.cases (decide (90 < (u1.toNat : Int))) (fun hg10 => ?_) (fun hg10 => ?_)
      ·skip
       refine At.set (d := 48) (u := .bool true) rfl (congrArg Value.bool hg10) ?_
       have hg10' := of_decide_eq_true hg10
       refine At.yes rfl rfl rfl rfl ?_
       refine At.move rfl rfl ?_
       refine At.yes rfl rfl rfl rfl ?_
       refine At.lss rfl rfl rfl ?_
       refine At.yes rfl rfl rfl rfl ?_
       refine At.move rfl rfl ?_
       refine At.cases (decide ((u1.toNat : Int) < 97)) (fun hg11 => ?_) (fun hg11 => ?_)
       ·skip
        refine At.set (d := 51) (u := .bool true) rfl (congrArg Value.bool hg11) ?_
        have hg11' := of_decide_eq_true hg11
        refine At.no rfl rfl rfl rfl rfl rfl rfl ?_
        refine At.no rfl rfl rfl rfl rfl rfl rfl ?_
        refine At.yes rfl rfl rfl rfl ?_
        refine At.pickT rfl rfl rfl ?_
        refine At.pickT rfl rfl rfl ?_
        refine At.ops0 ?_
        refine At.thenN ?_
        refine At.condT rfl ?_
        refine At.seq ?_
        refine At.region ?_
        refine At.move rfl rfl ?_
        refine At.assign rfl rfl ?_
        refine At.ops0 ?_
        refine At.thenN ?_
        refine At.retc ?_
        refine At.inR ?_
        refine At.thenR ?_
        refine At.thenR ?_
        refine At.inR ?_
        refine At.thenR ?_
        refine At.doneR (ResV.tmp rfl ResV.nil) ?_
        exact ⟨rfl, hB⟩
       ·skip
        refine At.set (d := 51) (u := .bool false) rfl (congrArg Value.bool hg11) ?_
        have hg11' := of_decide_eq_false hg11
        refine At.yes rfl rfl rfl rfl ?_
        refine At.move rfl rfl ?_
        refine At.yes rfl rfl rfl rfl ?_
        refine At.gtr rfl rfl rfl ?_
        refine At.yes rfl rfl rfl rfl ?_
        refine At.pickF rfl rfl rfl ?_
        refine At.pickT rfl rfl rfl ?_
        refine At.ops0 ?_
        refine At.thenN ?_
        refine At.cond (b := decide (122 < (u1.toNat : Int))) rfl (fun hc5 => ?_) (fun hc5 => ?_)
        ·skip
         have hc5' := of_decide_eq_true hc5
         refine At.seq ?_
         refine At.region ?_
         refine At.move rfl rfl ?_
         refine At.assign rfl rfl ?_
         refine At.ops0 ?_
         refine At.thenN ?_
         refine At.retc ?_
         refine At.inR ?_
         refine At.thenR ?_
         refine At.thenR ?_
         refine At.inR ?_
         refine At.thenR ?_
         refine At.doneR (ResV.tmp rfl ResV.nil) ?_
         exact ⟨rfl, hB⟩
        ·skip
         have hc5' := of_decide_eq_false hc5
         refine At.skip ?_
         refine At.inN ?_
         refine At.thenN ?_
         refine At.region ?_
         refine At.move rfl rfl ?_
         refine At.addI rfl rfl rfl (by first | omega | (have q := (y3 _ ‹_›).1; omega)) ?_
         refine At.assign rfl rfl ?_
         refine At.ops0 ?_
         refine At.thenN ?_
         exact fun act_ hact_ => ⟨(k + 1), hact_.sub (Sub.cons rfl (Sub.cons rfl (Sub.cons rfl (Sub.cons rfl Sub.nil)))), ⟨rfl, (by omega), (step_all hn hu1 (by simp only [nameB, letB, largB, digB, Bool.or_eq_true, Bool.and_eq_true, decide_eq_true_eq]; omega))⟩, by first | omega | (dsimp only; omega)⟩
      ·skip
       refine At.set (d := 48) (u := .bool false) rfl (congrArg Value.bool hg10) ?_
       have hg10' := of_decide_eq_false hg10
       refine At.no rfl rfl rfl rfl rfl rfl rfl ?_
       refine At.no rfl rfl rfl rfl rfl rfl rfl ?_
       refine At.no rfl rfl rfl rfl rfl rfl rfl ?_
       refine At.noU rfl rfl rfl rfl rfl rfl ?_
       refine At.noU rfl rfl rfl rfl rfl rfl ?_
       refine At.no rfl rfl rfl rfl rfl rfl rfl ?_
       refine At.pickF rfl rfl rfl ?_
       refine At.ops0 ?_
       refine At.thenN ?_
       refine At.condF rfl ?_
       refine At.skip ?_
       refine At.inN ?_
       refine At.thenN ?_
       refine At.region ?_
       refine At.move rfl rfl ?_
       refine At.addI rfl rfl rfl (by first | omega | (have q := (y3 _ ‹_›).1; omega)) ?_
       refine At.assign rfl rfl ?_
       refine At.ops0 ?_
       refine At.thenN ?_
       exact fun act_ hact_ => ⟨(k + 1), hact_.sub (Sub.cons rfl (Sub.cons rfl (Sub.cons rfl (Sub.cons rfl Sub.nil)))), ⟨rfl, (by omega), (step_all hn hu1 (by simp only [nameB, letB, largB, digB, Bool.or_eq_true, Bool.and_eq_true, decide_eq_true_eq]; omega))⟩, by first | omega | (dsimp only; omega)⟩
    ·skip
     refine At.set (d := 40) (u := .bool false) rfl (congrArg Value.bool hg7) ?_
     have hg7' := of_decide_eq_false hg7
     refine At.no rfl rfl rfl rfl rfl rfl rfl ?_
     refine At.no rfl rfl rfl rfl rfl rfl rfl ?_
     refine At.no rfl rfl rfl rfl rfl rfl rfl ?_
     refine At.noU rfl rfl rfl rfl rfl rfl ?_
     refine At.noU rfl rfl rfl rfl rfl rfl ?_
     refine At.no rfl rfl rfl rfl rfl rfl rfl ?_
     refine At.pickF rfl rfl rfl ?_
     refine At.move rfl rfl ?_
     refine At.no rfl rfl rfl rfl rfl rfl rfl ?_
     refine At.no rfl rfl rfl rfl rfl rfl rfl ?_
     refine At.no rfl rfl rfl rfl rfl rfl rfl ?_
     refine At.noU rfl rfl rfl rfl rfl rfl ?_
     refine At.noU rfl rfl rfl rfl rfl rfl ?_
     refine At.no rfl rfl rfl rfl rfl rfl rfl ?_
     refine At.pickF rfl rfl rfl ?_
     refine At.ops0 ?_
     refine At.thenN ?_
     refine At.condF rfl ?_
     refine At.skip ?_
     refine At.inN ?_
     refine At.thenN ?_
     refine At.region ?_
     refine At.move rfl rfl ?_
     refine At.addI rfl rfl rfl (by first | omega | (have q := (y3 _ ‹_›).1; omega)) ?_
     refine At.assign rfl rfl ?_
     refine At.ops0 ?_
     refine At.thenN ?_
     exact fun act_ hact_ => ⟨(k + 1), hact_.sub (Sub.cons rfl (Sub.cons rfl (Sub.cons rfl (Sub.cons rfl Sub.nil)))), ⟨rfl, (by omega), (step_all hn hu1 (by simp only [nameB, letB, largB, digB, Bool.or_eq_true, Bool.and_eq_true, decide_eq_true_eq]; omega))⟩, by first | omega | (dsimp only; omega)⟩
  ·skip
   refine At.set (d := 32) (u := .bool false) rfl (congrArg Value.bool hg1) ?_
   have hg1' := hg1; simp only [Bool.not_eq_true', Bool.not_eq_false', decide_eq_true_eq, decide_eq_false_iff_not] at hg1'
   refine At.no rfl rfl rfl rfl rfl rfl rfl ?_
   refine At.no rfl rfl rfl rfl rfl rfl rfl ?_
   refine At.no rfl rfl rfl rfl rfl rfl rfl ?_
   refine At.noU rfl rfl rfl rfl rfl rfl ?_
   refine At.noU rfl rfl rfl rfl rfl rfl ?_
   refine At.no rfl rfl rfl rfl rfl rfl rfl ?_
   refine At.pickF rfl rfl rfl ?_
   refine At.move rfl rfl ?_
   refine At.no rfl rfl rfl rfl rfl rfl rfl ?_
   refine At.no rfl rfl rfl rfl rfl rfl rfl ?_
   refine At.no rfl rfl rfl rfl rfl rfl rfl ?_
   refine At.noU rfl rfl rfl rfl rfl rfl ?_
   refine At.noU rfl rfl rfl rfl rfl rfl ?_
   refine At.no rfl rfl rfl rfl rfl rfl rfl ?_
   refine At.pickF rfl rfl rfl ?_
   refine At.move rfl rfl ?_
   refine At.no rfl rfl rfl rfl rfl rfl rfl ?_
   refine At.no rfl rfl rfl rfl rfl rfl rfl ?_
   refine At.no rfl rfl rfl rfl rfl rfl rfl ?_
   refine At.noU rfl rfl rfl rfl rfl rfl ?_
   refine At.noU rfl rfl rfl rfl rfl rfl ?_
   refine At.no rfl rfl rfl rfl rfl rfl rfl ?_
   refine At.pickF rfl rfl rfl ?_
   refine At.ops0 ?_
   refine At.thenN ?_
   refine At.condF rfl ?_
   refine At.skip ?_
   refine At.inN ?_
   refine At.thenN ?_
   refine At.region ?_
   refine At.move rfl rfl ?_
   refine At.addI rfl rfl rfl (by first | omega | (have q := (y3 _ ‹_›).1; omega)) ?_
   refine At.assign rfl rfl ?_
   refine At.ops0 ?_
   refine At.thenN ?_
   exact fun act_ hact_ => ⟨(k + 1), hact_.sub (Sub.cons rfl (Sub.cons rfl (Sub.cons rfl (Sub.cons rfl Sub.nil)))), ⟨rfl, (by omega), (step_all hn hu1 (by simp only [nameB, letB, largB, digB, Bool.or_eq_true, Bool.and_eq_true, decide_eq_true_eq]; omega))⟩, by first | omega | (dsimp only; omega)⟩
 ·skip
  have hc1' := of_decide_eq_false hc1
  refine At.exit ?_
  refine At.thenE ?_
  refine At.thenE ?_
  refine At.inE ?_
  refine At.thenN ?_
  refine At.seq ?_
  have hall := all_of hn (by omega)
  obtain ⟨hq1, hq2⟩ := names_errs hall hsl
  refine At.region ?_
  refine At.move rfl rfl ?_
  refine At.catB (a := ([102, 117, 110, 32] : List UInt8)) (b := s) rfl rfl rfl (by (try simp only [List.length_append, List.length_cons, List.length_nil]); omega) ?_
  refine At.catB (a := (([102, 117, 110, 32] : List UInt8) ++ s)) (b := ([32, 45, 62, 32, 48] : List UInt8)) rfl rfl rfl (by (try simp only [List.length_append, List.length_cons, List.length_nil]); omega) ?_
  refine At.toBytes (l := ((([102, 117, 110, 32] : List UInt8) ++ s) ++ ([32, 45, 62, 32, 48] : List UInt8))) rfl st9 el22 ik5 (by (try simp only [List.length_append, List.length_cons, List.length_nil]); omega) rfl (fun b1 cap1 w4 hgbb1 hbl3 hby1 => ?_)
  replace hB := Below.andThen hB hbl3
  have hml1 : MLt w4.heap.size [] := (MLt.nil _)
  refine At.call en13 rfl rfl (parse_any (.slice (some ⟨b1, 0, none⟩) ((([102, 117, 110, 32] : List UInt8) ++ s) ++ ([32, 45, 62, 32, 48] : List UInt8)).length cap1) ((([102, 117, 110, 32] : List UInt8) ++ s) ++ ([32, 45, 62, 32, 48] : List UInt8)) m _ (BytesAt.keep hby1 (Below.refl _ _)) (cell_keep hm hB)) (fun e w5 hR => ?_)
  obtain ⟨pr1, rfl, hbl4, hpk1, hsh1, hpl1, hpb1⟩ := hR
  refine ⟨_, rfl, ?_⟩
  replace hby1 := hby1.below hbl4
  replace hB := Below.andThen hB hbl4
  have hXp1 := Xs.of_new (B := 0) (M := []) (K := kPr) hpk1 (fun b hb => .inr (hpb1 b hb)) (fun _ _ => Nat.zero_le _) hml1
  clear hpk1 hpb1 hml1
  refine At.move rfl rfl ?_
  refine At.extract rfl rfl rfl ?_
  refine At.extract rfl rfl rfl ?_
  refine At.extract rfl rfl rfl ?_
  refine At.alloc ze37 rfl (fun b2 w6 F1 => ?_)
  have gb2 := F1.ge hB
  replace hby1 := hby1.fresh F1
  replace hXp1 := Xs.fresh hXp1 F1
  have hb2 : w6.heap[b2]? = some (.cells #[zN, zN, zI, zI, zS, zS, zI, zN, zN, zI, zS, zI, zN, zN, zI, zN, zI, zI, zS, zI, zN, zN, zI] 37) := F1.new
  replace hB := F1.below' hB
  refine At.storeAll rfl rfl hb2 (sz37.trans (congrArg some ((Xs.one hXp1)).size.symm)) ((Xs.one hXp1)).size.symm ((Xs.one hXp1)).one (fun w7 S1 => ?_)
  clear hby1
  replace hXp1 := Xs.set hXp1 S1 (by simp)
  replace hb2 : w7.heap[b2]? = some (.cells pr1.cs 37) := S1.new
  replace hB := S1.below' hB gb2
  refine At.assign rfl rfl ?_
  refine At.assign rfl rfl ?_
  refine At.ops0 ?_
  refine At.thenN ?_
  refine At.seq ?_
  refine At.region ?_
  refine At.move rfl rfl ?_
  refine At.catB (a := ([101, 102, 102, 101, 99, 116, 32, 69, 32, 123, 32] : List UInt8)) (b := s) rfl rfl rfl (by (try simp only [List.length_append, List.length_cons, List.length_nil]); omega) ?_
  refine At.catB (a := (([101, 102, 102, 101, 99, 116, 32, 69, 32, 123, 32] : List UInt8) ++ s)) (b := ([32, 58, 32, 105, 110, 116, 32, 45, 62, 32, 69, 32, 125, 32, 48] : List UInt8)) rfl rfl rfl (by (try simp only [List.length_append, List.length_cons, List.length_nil]); omega) ?_
  refine At.toBytes (l := ((([101, 102, 102, 101, 99, 116, 32, 69, 32, 123, 32] : List UInt8) ++ s) ++ ([32, 58, 32, 105, 110, 116, 32, 45, 62, 32, 69, 32, 125, 32, 48] : List UInt8))) rfl st9 el22 ik5 (by (try simp only [List.length_append, List.length_cons, List.length_nil]); omega) rfl (fun b3 cap2 w8 hgbb2 hbl5 hby2 => ?_)
  replace hb2 := Below.old hbl5 hb2
  replace hXp1 := Xs.below hXp1 hbl5
  replace hB := Below.andThen hB hbl5
  have hml2 : MLt w8.heap.size [some b2] := (MLt.blk hb2 (MLt.nil _))
  refine At.call en13 rfl rfl (parse_any (.slice (some ⟨b3, 0, none⟩) ((([101, 102, 102, 101, 99, 116, 32, 69, 32, 123, 32] : List UInt8) ++ s) ++ ([32, 58, 32, 105, 110, 116, 32, 45, 62, 32, 69, 32, 125, 32, 48] : List UInt8)).length cap2) ((([101, 102, 102, 101, 99, 116, 32, 69, 32, 123, 32] : List UInt8) ++ s) ++ ([32, 58, 32, 105, 110, 116, 32, 45, 62, 32, 69, 32, 125, 32, 48] : List UInt8)) m _ (BytesAt.keep hby2 (Below.refl _ _)) (cell_keep hm hB)) (fun e w9 hR => ?_)
  obtain ⟨pr2, rfl, hbl6, hpk2, hsh2, hpl2, hpb2⟩ := hR
  refine ⟨_, rfl, ?_⟩
  replace hb2 := Below.old hbl6 hb2
  replace hby2 := hby2.below hbl6
  replace hXp1 := Xs.below hXp1 hbl6
  replace hB := Below.andThen hB hbl6
  have hXp2 := Xs.of_new (B := 0) (M := [some b2]) (K := kPr) hpk2 (fun b hb => .inr (hpb2 b hb)) (fun _ _ => Nat.zero_le _) hml2
  clear hpk2 hpb2 hml2
  refine At.move rfl rfl ?_
  refine At.extract rfl rfl rfl ?_
  refine At.extract rfl rfl rfl ?_
  refine At.extract rfl rfl rfl ?_
  refine At.alloc ze37 rfl (fun b4 w10 F2 => ?_)
  have n_b2_b4 : b2 ≠ b4 := Nat.ne_of_lt (F2.lt hb2)
  have gb4 := F2.ge hB
  replace hb2 := F2.old hb2
  replace hby2 := hby2.fresh F2
  replace hXp1 := Xs.fresh hXp1 F2
  replace hXp2 := Xs.fresh hXp2 F2
  have hb4 : w10.heap[b4]? = some (.cells #[zN, zN, zI, zI, zS, zS, zI, zN, zN, zI, zS, zI, zN, zN, zI, zN, zI, zI, zS, zI, zN, zN, zI] 37) := F2.new
  replace hB := F2.below' hB
  refine At.storeAll rfl rfl hb4 (sz37.trans (congrArg some ((Xs.one hXp2)).size.symm)) ((Xs.one hXp2)).size.symm ((Xs.one hXp2)).one (fun w11 S2 => ?_)
  replace hb2 := S2.other hb2 n_b2_b4
  clear hby2
  replace hXp1 := Xs.set hXp1 S2 (by simp)
  replace hXp2 := Xs.set hXp2 S2 (by simp)
  replace hb4 : w11.heap[b4]? = some (.cells pr2.cs 37) := S2.new
  replace hB := S2.below' hB gb4
  refine At.assign rfl rfl ?_
  refine At.assign rfl rfl ?_
  refine At.ops0 ?_
  refine At.thenN ?_
  refine At.seq ?_
  refine At.seq ?_
  have hy := names_facts hsl (p := pr1) (q := pr2) hsh1 hsh2
  refine At.region ?_
  refine At.move rfl rfl ?_
  refine At.eqI rfl rfl rfl ?_
  refine At.move rfl rfl ?_
  refine At.neB rfl rfl bo4 rfl ?_
  refine At.move rfl rfl ?_
  have hbb1 : ((!decide (decide ((parseR ((([102, 117, 110, 32] : List UInt8) ++ s) ++ ([32, 45, 62, 32, 48] : List UInt8))).2.2 = 0) = (smallB s)))) = false := by rw [show decide ((parseR ((([102, 117, 110, 32] : List UInt8) ++ s) ++ ([32, 45, 62, 32, 48] : List UInt8))).2.2 = 0) = smallB s from hq1]; simp
  refine At.set (d := 79) (u := .bool false) rfl (congrArg Value.bool hbb1) ?_
  refine At.yes rfl rfl rfl rfl ?_
  refine At.move rfl rfl ?_
  refine At.yes rfl rfl rfl rfl ?_
  refine At.eqI rfl rfl rfl ?_
  refine At.yes rfl rfl rfl rfl ?_
  refine At.move rfl rfl ?_
  refine At.yes rfl rfl rfl rfl ?_
  refine At.neB rfl rfl bo4 rfl ?_
  refine At.pickF rfl rfl rfl ?_
  refine At.ops0 ?_
  refine At.thenN ?_
  have hb : ((!decide (decide ((parseR ((([101, 102, 102, 101, 99, 116, 32, 69, 32, 123, 32] : List UInt8) ++ s) ++ ([32, 58, 32, 105, 110, 116, 32, 45, 62, 32, 69, 32, 125, 32, 48] : List UInt8))).2.2 = 0) = (smallB s)))) = false := by rw [show decide ((parseR ((([101, 102, 102, 101, 99, 116, 32, 69, 32, 123, 32] : List UInt8) ++ s) ++ ([32, 58, 32, 105, 110, 116, 32, 45, 62, 32, 69, 32, 125, 32, 48] : List UInt8))).2.2 = 0) = smallB s from hq2]; simp
  refine At.set (d := 84) (u := .bool false) rfl (congrArg Value.bool hb) ?_
  refine At.condF rfl ?_
  refine At.skip ?_
  refine At.thenN ?_
  refine At.seq ?_
  refine At.region ?_
  refine At.move rfl rfl ?_
  refine At.move rfl rfl ?_
  refine At.yes rfl rfl rfl rfl ?_
  refine At.move rfl rfl ?_
  refine At.yes rfl rfl rfl rfl ?_
  refine At.not rfl rfl ?_
  refine At.yes rfl rfl rfl rfl ?_
  refine At.move rfl rfl ?_
  refine At.cases ((!(smallB s))) (fun hg12 => ?_) (fun hg12 => ?_)
  ·skip
   refine At.set (d := 89) (u := .bool true) rfl (congrArg Value.bool hg12) ?_
   refine At.no rfl rfl rfl rfl rfl rfl rfl ?_
   refine At.no rfl rfl rfl rfl rfl rfl rfl ?_
   refine At.no rfl rfl rfl rfl rfl rfl rfl ?_
   refine At.no rfl rfl rfl rfl rfl rfl rfl ?_
   refine At.no rfl rfl rfl rfl rfl rfl rfl ?_
   refine At.no rfl rfl rfl rfl rfl rfl rfl ?_
   refine At.noU rfl rfl rfl rfl rfl rfl ?_
   refine At.noU rfl rfl rfl rfl rfl rfl ?_
   refine At.noU rfl rfl rfl rfl rfl rfl ?_
   refine At.noU rfl rfl rfl rfl rfl rfl ?_
   refine At.no rfl rfl rfl rfl rfl rfl rfl ?_
   refine At.no rfl rfl rfl rfl rfl rfl rfl ?_
   refine At.noU rfl rfl rfl rfl rfl rfl ?_
   refine At.noU rfl rfl rfl rfl rfl rfl ?_
   refine At.noU rfl rfl rfl rfl rfl rfl ?_
   refine At.noU rfl rfl rfl rfl rfl rfl ?_
   refine At.noU rfl rfl rfl rfl rfl rfl ?_
   refine At.noU rfl rfl rfl rfl rfl rfl ?_
   refine At.noU rfl rfl rfl rfl rfl rfl ?_
   refine At.no rfl rfl rfl rfl rfl rfl rfl ?_
   refine At.no rfl rfl rfl rfl rfl rfl rfl ?_
   refine At.noU rfl rfl rfl rfl rfl rfl ?_
   refine At.noU rfl rfl rfl rfl rfl rfl ?_
   refine At.noU rfl rfl rfl rfl rfl rfl ?_
   refine At.noU rfl rfl rfl rfl rfl rfl ?_
   refine At.noU rfl rfl rfl rfl rfl rfl ?_
   refine At.noU rfl rfl rfl rfl rfl rfl ?_
   refine At.noU rfl rfl rfl rfl rfl rfl ?_
   refine At.noU rfl rfl rfl rfl rfl rfl ?_
   refine At.noU rfl rfl rfl rfl rfl rfl ?_
   refine At.noU rfl rfl rfl rfl rfl rfl ?_
   refine At.no rfl rfl rfl rfl rfl rfl rfl ?_
   refine At.no rfl rfl rfl rfl rfl rfl rfl ?_
   refine At.noU rfl rfl rfl rfl rfl rfl ?_
   refine At.noU rfl rfl rfl rfl rfl rfl ?_
   refine At.noU rfl rfl rfl rfl rfl rfl ?_
   refine At.noU rfl rfl rfl rfl rfl rfl ?_
   refine At.noU rfl rfl rfl rfl rfl rfl ?_
   refine At.noU rfl rfl rfl rfl rfl rfl ?_
   refine At.noU rfl rfl rfl rfl rfl rfl ?_
   refine At.noU rfl rfl rfl rfl rfl rfl ?_
   refine At.noU rfl rfl rfl rfl rfl rfl ?_
   refine At.noU rfl rfl rfl rfl rfl rfl ?_
   refine At.no rfl rfl rfl rfl rfl rfl rfl ?_
   refine At.yes rfl rfl rfl rfl ?_
   refine At.pickT rfl rfl rfl ?_
   refine At.pickT rfl rfl rfl ?_
   refine At.assign rfl rfl ?_
   refine At.ops0 ?_
   refine At.thenN ?_
   refine At.retc ?_
   refine At.doneR (ResV.tmp rfl ResV.nil) ?_
   exact ⟨rfl, hB⟩
  ·skip
   refine At.set (d := 89) (u := .bool false) rfl (congrArg Value.bool hg12) ?_
   have hsm : smallB s = true := by simpa using hg12
   obtain ⟨y1, y2, y3⟩ := hy hsm
   refine At.yes rfl rfl rfl rfl ?_
   refine At.fieldAddr rfl fo37_2 rfl ?_
   refine At.yes rfl rfl rfl rfl ?_
   refine At.fieldAddr rfl fo35_2 rfl ?_
   refine At.yes rfl rfl rfl rfl ?_
   refine At.load rfl (Ld.ownCell ag9 hb2 (sub_cell ((Xs.one hXp1)).bodyCs (((Xs.one hXp1)).bodyOk).c2)) rfl ?_
   refine At.yes rfl rfl rfl rfl ?_
   refine At.move rfl rfl ?_
   refine At.yes rfl rfl rfl rfl ?_
   refine At.eqS rfl rfl rfl ?_
   refine At.yes rfl rfl rfl rfl ?_
   refine At.move rfl rfl ?_
   have hbb2 : (decide (pr1.body.nm = (bs s))) = true := by simp [y1, y2]
   refine At.set (d := 95) (u := .bool true) rfl (congrArg Value.bool hbb2) ?_
   refine At.yes rfl rfl rfl rfl ?_
   refine At.fieldAddr rfl fo37_0 rfl ?_
   refine At.yes rfl rfl rfl rfl ?_
   refine At.load rfl (Ld.ownCell ag24 hb4 ((Xs.one hXp2)).c0) rfl ?_
   refine At.yes rfl rfl rfl rfl ?_
   refine At.lenSl rfl (((Xs.one hXp2)).effsAt).okL el24 rfl ?_
   refine At.yes rfl rfl rfl rfl ?_
   refine At.eqI rfl rfl rfl ?_
   refine At.yes rfl rfl rfl rfl ?_
   refine At.pickT rfl rfl rfl ?_
   refine At.yes rfl rfl rfl rfl ?_
   refine At.move rfl rfl ?_
   have hbb3 : (decide ((pr2.effs.length : Int) = 1)) = true := by simp [y1, y2]
   refine At.set (d := 101) (u := .bool true) rfl (congrArg Value.bool hbb3) ?_
   refine At.yes rfl rfl rfl rfl ?_
   refine At.fieldAddr rfl fo37_0 rfl ?_
   refine At.yes rfl rfl rfl rfl ?_
   refine At.load rfl (Ld.ownCell ag24 hb4 ((Xs.one hXp2)).c0) rfl ?_
   refine At.yes rfl rfl rfl rfl ?_
   obtain ⟨u2, hu2⟩ := some_of_lt (l := pr2.effs) (i := 0) (by first | omega | (have q := (y3 _ ‹_›).1; omega))
   refine At.indexAddr (i := 0) rfl rfl (((Xs.one hXp2)).effsAt).okL (lt_of_some hu2) el24 sz55 rfl ?_
   refine At.yes rfl rfl rfl rfl ?_
   refine At.fieldAddr rfl fo55_1 rfl ?_
   refine At.yes rfl rfl rfl rfl ?_
   refine At.load rfl (Ld.cell ag53 (cell_keep (((((Xs.one hXp2)).effsAt).row hu2).get ((((Xs.one hXp2)).eff hu2)).c1) (Below.refl _ _))) rfl ?_
   refine At.yes rfl rfl rfl rfl ?_
   refine At.lenSl rfl (((((Xs.one hXp2)).eff hu2)).opsAt).okL el53 rfl ?_
   refine At.yes rfl rfl rfl rfl ?_
   refine At.eqI rfl rfl rfl ?_
   refine At.yes rfl rfl rfl rfl ?_
   refine At.pickT rfl rfl rfl ?_
   refine At.yes rfl rfl rfl rfl ?_
   refine At.move rfl rfl ?_
   have hbb4 : (decide ((u2.ops.length : Int) = 1)) = true := by simp [y1, y2, (y3 _ hu2).1]
   refine At.set (d := 110) (u := .bool true) rfl (congrArg Value.bool hbb4) ?_
   refine At.yes rfl rfl rfl rfl ?_
   refine At.fieldAddr rfl fo37_0 rfl ?_
   refine At.yes rfl rfl rfl rfl ?_
   refine At.load rfl (Ld.ownCell ag24 hb4 ((Xs.one hXp2)).c0) rfl ?_
   refine At.yes rfl rfl rfl rfl ?_
   refine At.indexAddr (i := 0) rfl rfl (((Xs.one hXp2)).effsAt).okL (lt_of_some hu2) el24 sz55 rfl ?_
   refine At.yes rfl rfl rfl rfl ?_
   refine At.fieldAddr rfl fo55_1 rfl ?_
   refine At.yes rfl rfl rfl rfl ?_
   refine At.load rfl (Ld.cell ag53 (cell_keep (((((Xs.one hXp2)).effsAt).row hu2).get ((((Xs.one hXp2)).eff hu2)).c1) (Below.refl _ _))) rfl ?_
   refine At.yes rfl rfl rfl rfl ?_
   obtain ⟨u3, hu3⟩ := some_of_lt (l := u2.ops) (i := 0) (by first | omega | (have q := (y3 _ ‹_›).1; omega))
   refine At.indexAddr (i := 0) rfl rfl (((((Xs.one hXp2)).eff hu2)).opsAt).okL (lt_of_some hu3) el53 sz57 rfl ?_
   refine At.yes rfl rfl rfl rfl ?_
   refine At.fieldAddr rfl fo57_0 rfl ?_
   refine At.yes rfl rfl rfl rfl ?_
   refine At.load rfl (Ld.cell ag9 (cell_keep (((((((Xs.one hXp2)).eff hu2)).opsAt).row hu3).get ((((((Xs.one hXp2)).eff hu2)).op hu3)).c0) (Below.refl _ _))) rfl ?_
   refine At.yes rfl rfl rfl rfl ?_
   refine At.move rfl rfl ?_
   refine At.yes rfl rfl rfl rfl ?_
   refine At.eqS rfl rfl rfl ?_
   refine At.yes rfl rfl rfl rfl ?_
   refine At.pickT rfl rfl rfl ?_
   refine At.yes rfl rfl rfl rfl ?_
   refine At.move rfl rfl ?_
   have hbb5 : (decide (u3.nm = (bs s))) = true := by simp [y1, y2, (y3 _ hu2).1, ((y3 _ hu2).2 _ hu3).1, ((y3 _ hu2).2 _ hu3).2]
   refine At.set (d := 122) (u := .bool true) rfl (congrArg Value.bool hbb5) ?_
   refine At.yes rfl rfl rfl rfl ?_
   refine At.fieldAddr rfl fo37_0 rfl ?_
   refine At.yes rfl rfl rfl rfl ?_
   refine At.load rfl (Ld.ownCell ag24 hb4 ((Xs.one hXp2)).c0) rfl ?_
   refine At.yes rfl rfl rfl rfl ?_
   refine At.indexAddr (i := 0) rfl rfl (((Xs.one hXp2)).effsAt).okL (lt_of_some hu2) el24 sz55 rfl ?_
   refine At.yes rfl rfl rfl rfl ?_
   refine At.fieldAddr rfl fo55_1 rfl ?_
   refine At.yes rfl rfl rfl rfl ?_
   refine At.load rfl (Ld.cell ag53 (cell_keep (((((Xs.one hXp2)).effsAt).row hu2).get ((((Xs.one hXp2)).eff hu2)).c1) (Below.refl _ _))) rfl ?_
   refine At.yes rfl rfl rfl rfl ?_
   refine At.indexAddr (i := 0) rfl rfl (((((Xs.one hXp2)).eff hu2)).opsAt).okL (lt_of_some hu3) el53 sz57 rfl ?_
   refine At.yes rfl rfl rfl rfl ?_
   refine At.fieldAddr rfl fo57_2 rfl ?_
   refine At.yes rfl rfl rfl rfl ?_
   refine At.fieldAddr rfl fo33_0 rfl ?_
   refine At.yes rfl rfl rfl rfl ?_
   refine At.load rfl (Ld.cell ag3 (cell_keep (((((((Xs.one hXp2)).eff hu2)).opsAt).row hu3).get (sub_cell ((((((Xs.one hXp2)).eff hu2)).op hu3)).resCs (((((((Xs.one hXp2)).eff hu2)).op hu3)).resOk).c0)) (Below.refl _ _))) rfl ?_
   refine At.yes rfl rfl rfl rfl ?_
   refine At.eqI rfl rfl rfl ?_
   refine At.yes rfl rfl rfl rfl ?_
   refine At.pickT rfl rfl rfl ?_
   refine At.yes rfl rfl rfl rfl ?_
   refine At.pickF rfl rfl rfl ?_
   refine At.pickT rfl rfl rfl ?_
   refine At.assign rfl rfl ?_
   refine At.ops0 ?_
   refine At.thenN ?_
   refine At.retc ?_
   refine At.doneR (ResV.tmp rfl ResV.nil) ?_
   exact ⟨congrArg (fun b => Ending.returned (.bool b)) (by simp [y1, y2, (y3 _ hu2).1, ((y3 _ hu2).2 _ hu3).1, ((y3 _ hu2).2 _ hu3).2]), hB⟩
theorem names_all (a : ByteArray) (m : Int) (w : World) (hm : w.cell? ⟨0, 0, none⟩ = some (.int .i64 m)) : Calls Try.prog 6 ([.string a] : List Value).toArray w fun e w' => e = .returned (.bool true) ∧ Below w.heap.size w w' := by
 have h := namesL_any a.data.toList m w hm
 rwa [← bs_of a] at h
end Go.Proofs.Ytkjmjnddanhapaa
