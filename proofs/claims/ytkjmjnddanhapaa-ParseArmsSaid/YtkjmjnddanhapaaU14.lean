/-
 The walk of ParseArms. Written by a program of ours.
-/
import Derived.Test.YtkjmjnddanhapaaN16
import Derived.Test.YtkjmjnddanhapaaU12
set_option linter.unusedVariables false
set_option linter.unusedSimpArgs false
namespace Go.Proofs.Ytkjmjnddanhapaa
open Go.RowKit
theorem en12 : entB Try.prog 12 = true := by kernel_rfl
theorem app_vS (B : List UInt8) (k : Nat) : ((B ++ vS k) ++ ([32, 118] : List UInt8)) ++ dgs k = B ++ vS (k + 1) := by rw [vS]; simp
theorem sep_pos {i : Nat} (h : (0 : Int) < (i : Int)) : sepS i = [32, 59] := by unfold sepS; rw [if_pos (by omega)]
theorem sep_no {i : Nat} (h : ¬ (0 : Int) < (i : Int)) : sepS i = [] := by unfold sepS; rw [if_neg (by omega)]
theorem arm_at {l : List Int} {n : Nat} {p : Pr} {a b : Int} {nm : ByteArray} {ks : List ST} {zs : List SA} (h : Ar l 0 n zs) (hp : shPr p = ⟨[], [], .mk 12 a E0B nm b ks zs⟩) :
  p.body.arms.length = n ∧ ∀ i u, p.body.arms[i]? = some u → u.nm = bs (([67] : List UInt8) ++ dgs i) ∧ u.vars.length = wv l i ∧ u.body.n = (i : Int) := by
 obtain ⟨_, _, _, _, _, _, h7⟩ := shT_k p.body (show shT p.body = _ from congrArg SPr.body hp)
 obtain ⟨g1, _, g3⟩ := h.at
 refine ⟨by have := congrArg List.length h7; rw [List.length_map] at this; omega, fun i u hu => ?_⟩
 obtain ⟨ns, c, e1, e2⟩ := g3 i _ (map_at h7 hu)
 rw [Nat.zero_add] at e1 e2
 have e1 : SA.mk u.nm u.vars (shT u.body) = _ := e1
 injection e1 with e3 e4 e5
 exact ⟨e3, by rw [e4]; exact e2, (shT_k u.body e5).2.2.2.2.1⟩
theorem cls_at {n : Nat} {p : Pr} {a b : Int} {nm : ByteArray} {ks : List ST} {zs : List SA} {ns : List ByteArray} {x : ST} (h : Cr 0 n zs) (hp : shPr p = ⟨[], [], .mk 14 a nm E0B b ks (.mk retB ns x :: zs)⟩) :
  p.body.arms.length = n + 1 ∧ (∀ u, p.body.arms[0]? = some u → u.nm = retB) ∧ ∀ i u, p.body.arms[i + 1]? = some u → u.nm = bs (([111, 112] : List UInt8) ++ dgs i) ∧ u.vars.length = 2 ∧ u.body.n = (i : Int) := by
 obtain ⟨_, _, _, _, _, _, h7⟩ := shT_k p.body (show shT p.body = _ from congrArg SPr.body hp)
 obtain ⟨g1, _, g3⟩ := h.at
 refine ⟨by have := congrArg List.length h7; rw [List.length_map, List.length_cons] at this; omega, fun u hu => ?_, fun i u hu => ?_⟩
 ·have := (Option.some.inj (map_at h7 hu)).symm
  injection this
 ·have hm := map_at h7 hu
  obtain ⟨c, e1⟩ := g3 i _ hm
  rw [Nat.zero_add] at e1
  have e1 : SA.mk u.nm u.vars (shT u.body) = _ := e1
  injection e1 with e3 e4 e5
  exact ⟨e3, by rw [e4]; rfl, (shT_k u.body e5).2.2.2.2.1⟩
theorem arms_any (a0 m : Int) (v1 : Value) (l1 : List Int) (w : World) (hv1 : IntsAt w v1 l1) (hm : w.cell? ⟨0, 0, none⟩ = some (.int .i64 m)) :
  Calls Try.prog 9 ([.int .i64 a0, v1] : List Value).toArray w fun e w' => e = .returned (.bool true) ∧ Below w.heap.size w w' := by
 have hB := Below.refl w.heap.size w
 refine At.enter (N := 189) Try.func9 rfl rfl (by simp) [(0, .int .i64 a0), (1, v1)] (by simp) ?_
 refine At.seq ?_
 refine At.region ?_
 refine At.assign rfl rfl ?_
 refine At.ops0 ?_
 refine At.thenN ?_
 refine At.seq ?_
 refine At.region ?_
 refine At.call en12 rfl rfl (shown_any m _ (cell_keep hm hB)) (fun e w1 hR => ?_)
 obtain ⟨rfl, hbl1⟩ := hR
 refine ⟨_, rfl, ?_⟩
 replace hB := Below.andThen hB hbl1
 refine At.assign rfl rfl ?_
 refine At.ops0 ?_
 refine At.thenN ?_
 refine At.seq ?_
 refine At.region ?_
 refine At.move rfl rfl ?_
 refine At.andI rfl rfl rfl ?_
 refine At.remI rfl rfl (by first | omega | (simp; omega)) rfl ?_
 obtain ⟨q1, hq1, lq1⟩ := and_mod a0 (k := 61) (by decide)
 refine At.set (d := 23) (u := .int .i64 (q1 : Int)) rfl (congrArg (Value.int .i64) hq1) ?_
 refine At.assign rfl rfl ?_
 refine At.ops0 ?_
 refine At.thenN ?_
 refine At.seq ?_
 refine At.region ?_
 refine At.assign rfl rfl ?_
 refine At.ops0 ?_
 refine At.thenN ?_
 refine At.seq ?_
 refine At.region ?_
 refine At.assign rfl rfl ?_
 refine At.ops0 ?_
 refine At.thenN ?_
 refine At.seq ?_
 refine At.seq ?_
 refine At.region ?_
 refine At.assign rfl rfl ?_
 refine At.ops0 ?_
 refine At.thenN ?_
 refine At.block ?_
 refine At.loop (Nat) (fun i => [(0, .int .i64 (q1 : Int)), (1, v1), (5, .bool true), (6, .string (bs (armS l1 i))), (7, .string (bs (clS i))), (8, .int .i64 (i : Int))]) (fun i w2 => Below w.heap.size w w2 ∧ (i ≤ q1)) (fun i => q1 - i) (0 : Nat) (Sub.cons rfl (Sub.cons rfl (Sub.cons rfl (Sub.cons rfl (Sub.cons rfl (Sub.cons rfl Sub.nil)))))) ⟨hB, (by omega)⟩ (fun i w2 hI => ?_)
 clear hB
 obtain ⟨hB, hi⟩ := hI
 show At _ _ [(0, .int .i64 (q1 : Int)), (1, v1), (5, .bool true), (6, .string (bs (armS l1 i))), (7, .string (bs (clS i))), (8, .int .i64 (i : Int))] _ _
 refine At.seq ?_
 refine At.seq ?_
 refine At.region ?_
 refine At.move rfl rfl ?_
 refine At.move rfl rfl ?_
 refine At.lss rfl rfl rfl ?_
 refine At.ops0 ?_
 refine At.thenN ?_
 refine At.cond (b := decide ((i : Int) < (q1 : Int))) rfl (fun hc1 => ?_) (fun hc1 => ?_)
 ·skip
  have hc1' := of_decide_eq_true hc1
  refine At.skip ?_
  refine At.thenN ?_
  refine At.seq ?_
  refine At.block ?_
  refine At.seq ?_
  refine At.seq ?_
  refine At.region ?_
  refine At.move rfl rfl ?_
  refine At.gtr rfl rfl rfl ?_
  refine At.ops0 ?_
  refine At.thenN ?_
  refine At.joinC [(0, .int .i64 (q1 : Int)), (1, v1), (5, .bool true), (7, .string (bs (clS i))), (8, .int .i64 (i : Int)), (6, .string (bs ((armS l1 i) ++ (sepS i))))] (fun w' => w2 = w') ?_ (fun w3 hS => ?_)
  ·skip
   refine At.cond (b := decide (0 < (i : Int))) rfl (fun hc2 => ?_) (fun hc2 => ?_)
   ·skip
    have hc2' := of_decide_eq_true hc2
    refine At.region ?_
    refine At.move rfl rfl ?_
    refine At.catB (a := (armS l1 i)) (b := ([32, 59] : List UInt8)) rfl rfl rfl (by first | omega | (have q := armS_len l1 i (by omega); have q2 := dgs_len20 (n := i) (by omega); have q3 := clS_len i (by omega); have q4 := wv_lt l1 i; have q5 := vS_len (wv l1 i) (by omega); have q6 : (sepS i).length ≤ 2 := (by unfold sepS; split <;> decide); (try simp only [List.length_append, List.length_cons, List.length_nil]); omega) | (have q := armS_len l1 i (by omega); have q2 := dgs_len20 (n := i) (by omega); have q4 := wv_lt l1 i; have q5 := vS_len k (by omega); have q7 := dgs_len20 (n := k) (by omega); have q6 : (sepS i).length ≤ 2 := (by unfold sepS; split <;> decide); (try simp only [List.length_append, List.length_cons, List.length_nil]); omega) | (have q := armS_len l1 q1 (by omega); have q3 := clS_len q1 (by omega); (try simp only [List.length_append, List.length_cons, List.length_nil]); omega)) ?_
    refine At.assign rfl rfl ?_
    refine At.ops0 ?_
    exact At.joinedC (Sub.cons rfl (Sub.cons rfl (Sub.cons rfl (Sub.cons rfl (Sub.cons rfl (Sub.cons (congrArg (fun l => some (Value.string (bs l))) (show _ = (armS l1 i) ++ (sepS i) by rw [sep_pos hc2'])) Sub.nil)))))) rfl
   ·skip
    have hc2' := of_decide_eq_false hc2
    refine At.skip ?_
    exact At.joinedC (Sub.cons rfl (Sub.cons rfl (Sub.cons rfl (Sub.cons rfl (Sub.cons rfl (Sub.cons (congrArg (fun l => some (Value.string (bs l))) (show _ = (armS l1 i) ++ (sepS i) by rw [sep_no hc2', List.append_nil])) Sub.nil)))))) rfl
  ·skip
   subst hS
   refine At.thenN ?_
   refine At.seq ?_
   refine At.region ?_
   refine At.move rfl rfl ?_
   refine At.catB (a := ((armS l1 i) ++ (sepS i))) (b := ([32, 67] : List UInt8)) rfl rfl rfl (by first | omega | (have q := armS_len l1 i (by omega); have q2 := dgs_len20 (n := i) (by omega); have q3 := clS_len i (by omega); have q4 := wv_lt l1 i; have q5 := vS_len (wv l1 i) (by omega); have q6 : (sepS i).length ≤ 2 := (by unfold sepS; split <;> decide); (try simp only [List.length_append, List.length_cons, List.length_nil]); omega) | (have q := armS_len l1 i (by omega); have q2 := dgs_len20 (n := i) (by omega); have q4 := wv_lt l1 i; have q5 := vS_len k (by omega); have q7 := dgs_len20 (n := k) (by omega); have q6 : (sepS i).length ≤ 2 := (by unfold sepS; split <;> decide); (try simp only [List.length_append, List.length_cons, List.length_nil]); omega) | (have q := armS_len l1 q1 (by omega); have q3 := clS_len q1 (by omega); (try simp only [List.length_append, List.length_cons, List.length_nil]); omega)) ?_
   refine At.move rfl rfl ?_
   refine At.call en16 rfl rfl (digits_any i _ (by omega)) (fun e w4 hR => ?_)
   obtain ⟨rfl, hbl2⟩ := hR
   refine ⟨_, rfl, ?_⟩
   replace hB := Below.andThen hB hbl2
   refine At.catB (a := (((armS l1 i) ++ (sepS i)) ++ ([32, 67] : List UInt8))) (b := (dgs i)) rfl rfl rfl (by first | omega | (have q := armS_len l1 i (by omega); have q2 := dgs_len20 (n := i) (by omega); have q3 := clS_len i (by omega); have q4 := wv_lt l1 i; have q5 := vS_len (wv l1 i) (by omega); have q6 : (sepS i).length ≤ 2 := (by unfold sepS; split <;> decide); (try simp only [List.length_append, List.length_cons, List.length_nil]); omega) | (have q := armS_len l1 i (by omega); have q2 := dgs_len20 (n := i) (by omega); have q4 := wv_lt l1 i; have q5 := vS_len k (by omega); have q7 := dgs_len20 (n := k) (by omega); have q6 : (sepS i).length ≤ 2 := (by unfold sepS; split <;> decide); (try simp only [List.length_append, List.length_cons, List.length_nil]); omega) | (have q := armS_len l1 q1 (by omega); have q3 := clS_len q1 (by omega); (try simp only [List.length_append, List.length_cons, List.length_nil]); omega)) ?_
   refine At.assign rfl rfl ?_
   refine At.ops0 ?_
   refine At.thenN ?_
   refine At.seq ?_
   refine At.seq ?_
   refine At.region ?_
   refine At.move rfl rfl ?_
   refine At.move rfl rfl ?_
   refine At.lenSl rfl hv1.ok el48 rfl ?_
   refine At.lss rfl rfl rfl ?_
   refine At.ops0 ?_
   refine At.thenN ?_
   refine At.joinC [(0, .int .i64 (q1 : Int)), (1, v1), (5, .bool true), (7, .string (bs (clS i))), (8, .int .i64 (i : Int)), (6, .string (bs (((((armS l1 i) ++ (sepS i)) ++ ([32, 67] : List UInt8)) ++ (dgs i)) ++ (vS (wv l1 i)))))] (fun w' => Below w.heap.size w w') ?_ (fun w5 hS => ?_)
   ·skip
    refine At.cond (b := decide ((i : Int) < (l1.length : Int))) rfl (fun hc3 => ?_) (fun hc3 => ?_)
    ·skip
     have hc3' := of_decide_eq_true hc3
     refine At.seq ?_
     refine At.region ?_
     refine At.assign rfl rfl ?_
     refine At.ops0 ?_
     refine At.thenN ?_
     refine At.block ?_
     refine At.loop (Nat) (fun k => [(0, .int .i64 (q1 : Int)), (1, v1), (5, .bool true), (6, .string (bs (((((armS l1 i) ++ (sepS i)) ++ ([32, 67] : List UInt8)) ++ (dgs i)) ++ (vS k)))), (7, .string (bs (clS i))), (8, .int .i64 (i : Int)), (9, .int .i64 (k : Int))]) (fun k w6 => Below w.heap.size w w6 ∧ (k ≤ wv l1 i)) (fun k => wv l1 i - k) (0 : Nat) (Sub.cons rfl (Sub.cons rfl (Sub.cons rfl (Sub.cons (congrArg (fun l => some (Value.string (bs l))) (List.append_nil _).symm) (Sub.cons rfl (Sub.cons rfl (Sub.cons rfl Sub.nil))))))) ⟨hB, (by omega)⟩ (fun k w6 hI => ?_)
     clear hB
     obtain ⟨hB, hk⟩ := hI
     show At _ _ [(0, .int .i64 (q1 : Int)), (1, v1), (5, .bool true), (6, .string (bs (((((armS l1 i) ++ (sepS i)) ++ ([32, 67] : List UInt8)) ++ (dgs i)) ++ (vS k)))), (7, .string (bs (clS i))), (8, .int .i64 (i : Int)), (9, .int .i64 (k : Int))] _ _
     refine At.seq ?_
     refine At.seq ?_
     refine At.region ?_
     refine At.move rfl rfl ?_
     refine At.move rfl rfl ?_
     refine At.move rfl rfl ?_
     obtain ⟨u1, hu1⟩ := some_of_lt (l := l1) (i := i) (by first | omega | (simp; omega))
     refine At.indexAddr (i := i) rfl rfl hv1.ok (lt_of_some hu1) el48 sz3 rfl ?_
     refine At.load rfl (Ld.cell ag3 (cell_keep ((hv1).get hu1) hB)) rfl ?_
     refine At.andI rfl rfl rfl ?_
     refine At.remI rfl rfl (by first | omega | (simp; omega)) rfl ?_
     obtain ⟨q2, hq2, lq2⟩ := and_mod u1 (k := 6) (by decide)
     refine At.set (d := 48) (u := .int .i64 (q2 : Int)) rfl (congrArg (Value.int .i64) hq2) ?_
     refine At.lss rfl rfl rfl ?_
     refine At.ops0 ?_
     refine At.thenN ?_
     refine At.cond (b := decide ((k : Int) < (q2 : Int))) rfl (fun hc4 => ?_) (fun hc4 => ?_)
     ·skip
      have hc4' := of_decide_eq_true hc4
      refine At.skip ?_
      refine At.thenN ?_
      refine At.seq ?_
      refine At.block ?_
      refine At.region ?_
      refine At.move rfl rfl ?_
      refine At.catB (a := (((((armS l1 i) ++ (sepS i)) ++ ([32, 67] : List UInt8)) ++ (dgs i)) ++ (vS k))) (b := ([32, 118] : List UInt8)) rfl rfl rfl (by first | omega | (have q := armS_len l1 i (by omega); have q2 := dgs_len20 (n := i) (by omega); have q3 := clS_len i (by omega); have q4 := wv_lt l1 i; have q5 := vS_len (wv l1 i) (by omega); have q6 : (sepS i).length ≤ 2 := (by unfold sepS; split <;> decide); (try simp only [List.length_append, List.length_cons, List.length_nil]); omega) | (have q := armS_len l1 i (by omega); have q2 := dgs_len20 (n := i) (by omega); have q4 := wv_lt l1 i; have q5 := vS_len k (by omega); have q7 := dgs_len20 (n := k) (by omega); have q6 : (sepS i).length ≤ 2 := (by unfold sepS; split <;> decide); (try simp only [List.length_append, List.length_cons, List.length_nil]); omega) | (have q := armS_len l1 q1 (by omega); have q3 := clS_len q1 (by omega); (try simp only [List.length_append, List.length_cons, List.length_nil]); omega)) ?_
      refine At.move rfl rfl ?_
      refine At.call en16 rfl rfl (digits_any k _ (by omega)) (fun e w7 hR => ?_)
      obtain ⟨rfl, hbl3⟩ := hR
      refine ⟨_, rfl, ?_⟩
      replace hB := Below.andThen hB hbl3
      refine At.catB (a := ((((((armS l1 i) ++ (sepS i)) ++ ([32, 67] : List UInt8)) ++ (dgs i)) ++ (vS k)) ++ ([32, 118] : List UInt8))) (b := (dgs k)) rfl rfl rfl (by first | omega | (have q := armS_len l1 i (by omega); have q2 := dgs_len20 (n := i) (by omega); have q3 := clS_len i (by omega); have q4 := wv_lt l1 i; have q5 := vS_len (wv l1 i) (by omega); have q6 : (sepS i).length ≤ 2 := (by unfold sepS; split <;> decide); (try simp only [List.length_append, List.length_cons, List.length_nil]); omega) | (have q := armS_len l1 i (by omega); have q2 := dgs_len20 (n := i) (by omega); have q4 := wv_lt l1 i; have q5 := vS_len k (by omega); have q7 := dgs_len20 (n := k) (by omega); have q6 : (sepS i).length ≤ 2 := (by unfold sepS; split <;> decide); (try simp only [List.length_append, List.length_cons, List.length_nil]); omega) | (have q := armS_len l1 q1 (by omega); have q3 := clS_len q1 (by omega); (try simp only [List.length_append, List.length_cons, List.length_nil]); omega)) ?_
      refine At.assign rfl rfl ?_
      refine At.ops0 ?_
      refine At.inN ?_
      refine At.thenN ?_
      refine At.region ?_
      refine At.move rfl rfl ?_
      refine At.addI rfl rfl rfl (by first | omega | (simp; omega)) ?_
      refine At.assign rfl rfl ?_
      refine At.ops0 ?_
      refine At.thenN ?_
      have hwk := wv_some hu1 hq2
      exact fun act_ hact_ => ⟨(k + 1), hact_.sub (Sub.cons rfl (Sub.cons rfl (Sub.cons rfl (Sub.cons (congrArg (fun l => some (Value.string (bs l))) (app_vS _ _)) (Sub.cons rfl (Sub.cons rfl (Sub.cons rfl Sub.nil))))))), ⟨hB, (by have := wv_some hu1 hq2; omega)⟩, by have := hwk; first | omega | (dsimp only; omega)⟩
     ·skip
      have hc4' := of_decide_eq_false hc4
      refine At.exit ?_
      refine At.thenE ?_
      refine At.thenE ?_
      refine At.inE ?_
      exact At.joinedC (Sub.cons rfl (Sub.cons rfl (Sub.cons rfl (Sub.cons rfl (Sub.cons rfl (Sub.cons (congrArg (fun l => some (Value.string (bs l))) (show _ = ((((armS l1 i) ++ (sepS i)) ++ ([32, 67] : List UInt8)) ++ (dgs i)) ++ vS (wv l1 i) by rw [show k = wv l1 i by have := wv_some hu1 hq2; omega])) Sub.nil)))))) hB
    ·skip
     have hc3' := of_decide_eq_false hc3
     refine At.skip ?_
     exact At.joinedC (Sub.cons rfl (Sub.cons rfl (Sub.cons rfl (Sub.cons rfl (Sub.cons rfl (Sub.cons (congrArg (fun l => some (Value.string (bs l))) (show _ = ((((armS l1 i) ++ (sepS i)) ++ ([32, 67] : List UInt8)) ++ (dgs i)) ++ vS (wv l1 i) by rw [wv_none hc3', vS, List.append_nil])) Sub.nil)))))) hB
   ·skip
    replace hB := hS
    refine At.thenN ?_
    refine At.seq ?_
    refine At.region ?_
    refine At.move rfl rfl ?_
    refine At.catB (a := (((((armS l1 i) ++ (sepS i)) ++ ([32, 67] : List UInt8)) ++ (dgs i)) ++ (vS (wv l1 i)))) (b := ([32, 45, 62, 32] : List UInt8)) rfl rfl rfl (by first | omega | (have q := armS_len l1 i (by omega); have q2 := dgs_len20 (n := i) (by omega); have q3 := clS_len i (by omega); have q4 := wv_lt l1 i; have q5 := vS_len (wv l1 i) (by omega); have q6 : (sepS i).length ≤ 2 := (by unfold sepS; split <;> decide); (try simp only [List.length_append, List.length_cons, List.length_nil]); omega) | (have q := armS_len l1 i (by omega); have q2 := dgs_len20 (n := i) (by omega); have q4 := wv_lt l1 i; have q5 := vS_len k (by omega); have q7 := dgs_len20 (n := k) (by omega); have q6 : (sepS i).length ≤ 2 := (by unfold sepS; split <;> decide); (try simp only [List.length_append, List.length_cons, List.length_nil]); omega) | (have q := armS_len l1 q1 (by omega); have q3 := clS_len q1 (by omega); (try simp only [List.length_append, List.length_cons, List.length_nil]); omega)) ?_
    refine At.move rfl rfl ?_
    refine At.call en16 rfl rfl (digits_any i _ (by omega)) (fun e w8 hR => ?_)
    obtain ⟨rfl, hbl4⟩ := hR
    refine ⟨_, rfl, ?_⟩
    replace hB := Below.andThen hB hbl4
    refine At.catB (a := ((((((armS l1 i) ++ (sepS i)) ++ ([32, 67] : List UInt8)) ++ (dgs i)) ++ (vS (wv l1 i))) ++ ([32, 45, 62, 32] : List UInt8))) (b := (dgs i)) rfl rfl rfl (by first | omega | (have q := armS_len l1 i (by omega); have q2 := dgs_len20 (n := i) (by omega); have q3 := clS_len i (by omega); have q4 := wv_lt l1 i; have q5 := vS_len (wv l1 i) (by omega); have q6 : (sepS i).length ≤ 2 := (by unfold sepS; split <;> decide); (try simp only [List.length_append, List.length_cons, List.length_nil]); omega) | (have q := armS_len l1 i (by omega); have q2 := dgs_len20 (n := i) (by omega); have q4 := wv_lt l1 i; have q5 := vS_len k (by omega); have q7 := dgs_len20 (n := k) (by omega); have q6 : (sepS i).length ≤ 2 := (by unfold sepS; split <;> decide); (try simp only [List.length_append, List.length_cons, List.length_nil]); omega) | (have q := armS_len l1 q1 (by omega); have q3 := clS_len q1 (by omega); (try simp only [List.length_append, List.length_cons, List.length_nil]); omega)) ?_
    refine At.assign rfl rfl ?_
    refine At.ops0 ?_
    refine At.thenN ?_
    refine At.region ?_
    refine At.move rfl rfl ?_
    refine At.catB (a := (clS i)) (b := ([32, 59, 32, 111, 112] : List UInt8)) rfl rfl rfl (by first | omega | (have q := armS_len l1 i (by omega); have q2 := dgs_len20 (n := i) (by omega); have q3 := clS_len i (by omega); have q4 := wv_lt l1 i; have q5 := vS_len (wv l1 i) (by omega); have q6 : (sepS i).length ≤ 2 := (by unfold sepS; split <;> decide); (try simp only [List.length_append, List.length_cons, List.length_nil]); omega) | (have q := armS_len l1 i (by omega); have q2 := dgs_len20 (n := i) (by omega); have q4 := wv_lt l1 i; have q5 := vS_len k (by omega); have q7 := dgs_len20 (n := k) (by omega); have q6 : (sepS i).length ≤ 2 := (by unfold sepS; split <;> decide); (try simp only [List.length_append, List.length_cons, List.length_nil]); omega) | (have q := armS_len l1 q1 (by omega); have q3 := clS_len q1 (by omega); (try simp only [List.length_append, List.length_cons, List.length_nil]); omega)) ?_
    refine At.move rfl rfl ?_
    refine At.call en16 rfl rfl (digits_any i _ (by omega)) (fun e w9 hR => ?_)
    obtain ⟨rfl, hbl5⟩ := hR
    refine ⟨_, rfl, ?_⟩
    replace hB := Below.andThen hB hbl5
    refine At.catB (a := ((clS i) ++ ([32, 59, 32, 111, 112] : List UInt8))) (b := (dgs i)) rfl rfl rfl (by first | omega | (have q := armS_len l1 i (by omega); have q2 := dgs_len20 (n := i) (by omega); have q3 := clS_len i (by omega); have q4 := wv_lt l1 i; have q5 := vS_len (wv l1 i) (by omega); have q6 : (sepS i).length ≤ 2 := (by unfold sepS; split <;> decide); (try simp only [List.length_append, List.length_cons, List.length_nil]); omega) | (have q := armS_len l1 i (by omega); have q2 := dgs_len20 (n := i) (by omega); have q4 := wv_lt l1 i; have q5 := vS_len k (by omega); have q7 := dgs_len20 (n := k) (by omega); have q6 : (sepS i).length ≤ 2 := (by unfold sepS; split <;> decide); (try simp only [List.length_append, List.length_cons, List.length_nil]); omega) | (have q := armS_len l1 q1 (by omega); have q3 := clS_len q1 (by omega); (try simp only [List.length_append, List.length_cons, List.length_nil]); omega)) ?_
    refine At.catB (a := (((clS i) ++ ([32, 59, 32, 111, 112] : List UInt8)) ++ (dgs i))) (b := ([32, 97, 32, 107, 32, 45, 62, 32] : List UInt8)) rfl rfl rfl (by first | omega | (have q := armS_len l1 i (by omega); have q2 := dgs_len20 (n := i) (by omega); have q3 := clS_len i (by omega); have q4 := wv_lt l1 i; have q5 := vS_len (wv l1 i) (by omega); have q6 : (sepS i).length ≤ 2 := (by unfold sepS; split <;> decide); (try simp only [List.length_append, List.length_cons, List.length_nil]); omega) | (have q := armS_len l1 i (by omega); have q2 := dgs_len20 (n := i) (by omega); have q4 := wv_lt l1 i; have q5 := vS_len k (by omega); have q7 := dgs_len20 (n := k) (by omega); have q6 : (sepS i).length ≤ 2 := (by unfold sepS; split <;> decide); (try simp only [List.length_append, List.length_cons, List.length_nil]); omega) | (have q := armS_len l1 q1 (by omega); have q3 := clS_len q1 (by omega); (try simp only [List.length_append, List.length_cons, List.length_nil]); omega)) ?_
    refine At.move rfl rfl ?_
    refine At.call en16 rfl rfl (digits_any i _ (by omega)) (fun e w10 hR => ?_)
    obtain ⟨rfl, hbl6⟩ := hR
    refine ⟨_, rfl, ?_⟩
    replace hB := Below.andThen hB hbl6
    refine At.catB (a := ((((clS i) ++ ([32, 59, 32, 111, 112] : List UInt8)) ++ (dgs i)) ++ ([32, 97, 32, 107, 32, 45, 62, 32] : List UInt8))) (b := (dgs i)) rfl rfl rfl (by first | omega | (have q := armS_len l1 i (by omega); have q2 := dgs_len20 (n := i) (by omega); have q3 := clS_len i (by omega); have q4 := wv_lt l1 i; have q5 := vS_len (wv l1 i) (by omega); have q6 : (sepS i).length ≤ 2 := (by unfold sepS; split <;> decide); (try simp only [List.length_append, List.length_cons, List.length_nil]); omega) | (have q := armS_len l1 i (by omega); have q2 := dgs_len20 (n := i) (by omega); have q4 := wv_lt l1 i; have q5 := vS_len k (by omega); have q7 := dgs_len20 (n := k) (by omega); have q6 : (sepS i).length ≤ 2 := (by unfold sepS; split <;> decide); (try simp only [List.length_append, List.length_cons, List.length_nil]); omega) | (have q := armS_len l1 q1 (by omega); have q3 := clS_len q1 (by omega); (try simp only [List.length_append, List.length_cons, List.length_nil]); omega)) ?_
    refine At.assign rfl rfl ?_
    refine At.ops0 ?_
    refine At.inN ?_
    refine At.thenN ?_
    refine At.region ?_
    refine At.move rfl rfl ?_
    refine At.addI rfl rfl rfl (by first | omega | (simp; omega)) ?_
    refine At.assign rfl rfl ?_
    refine At.ops0 ?_
    refine At.thenN ?_
    exact fun act_ hact_ => ⟨(i + 1), hact_.sub (Sub.cons rfl (Sub.cons rfl (Sub.cons rfl (Sub.cons rfl (Sub.cons rfl (Sub.cons rfl Sub.nil)))))), ⟨hB, (by omega)⟩, by first | omega | (dsimp only; omega)⟩
 ·skip
  have hc1' := of_decide_eq_false hc1
  refine At.exit ?_
  refine At.thenE ?_
  refine At.thenE ?_
  refine At.inE ?_
  refine At.thenN ?_
  refine At.seq ?_
  refine At.set (d := 6) (u := .string (bs (armS l1 q1))) rfl (congrArg (fun l => Value.string (bs l)) (by rw [show i = q1 by omega])) ?_
  refine At.set (d := 7) (u := .string (bs (clS q1))) rfl (congrArg (fun l => Value.string (bs l)) (by rw [show i = q1 by omega])) ?_
  refine At.region ?_
  refine At.move rfl rfl ?_
  refine At.catB (a := (armS l1 q1)) (b := ([32, 125] : List UInt8)) rfl rfl rfl (by first | omega | (have q := armS_len l1 i (by omega); have q2 := dgs_len20 (n := i) (by omega); have q3 := clS_len i (by omega); have q4 := wv_lt l1 i; have q5 := vS_len (wv l1 i) (by omega); have q6 : (sepS i).length ≤ 2 := (by unfold sepS; split <;> decide); (try simp only [List.length_append, List.length_cons, List.length_nil]); omega) | (have q := armS_len l1 i (by omega); have q2 := dgs_len20 (n := i) (by omega); have q4 := wv_lt l1 i; have q5 := vS_len k (by omega); have q7 := dgs_len20 (n := k) (by omega); have q6 : (sepS i).length ≤ 2 := (by unfold sepS; split <;> decide); (try simp only [List.length_append, List.length_cons, List.length_nil]); omega) | (have q := armS_len l1 q1 (by omega); have q3 := clS_len q1 (by omega); (try simp only [List.length_append, List.length_cons, List.length_nil]); omega)) ?_
  refine At.toBytes (l := ((armS l1 q1) ++ ([32, 125] : List UInt8))) rfl st9 el22 ik5 (by have q := armS_len l1 q1 (by omega); have q3 := clS_len q1 (by omega); (try simp only [List.length_append, List.length_cons, List.length_nil]); omega) rfl (fun b1 cap1 w11 hgbb1 hbl7 hby1 => ?_)
  replace hB := Below.andThen hB hbl7
  have hml1 : MLt w11.heap.size [] := (MLt.nil _)
  refine At.call en13 rfl rfl (parse_any (.slice (some ⟨b1, 0, none⟩) ((armS l1 q1) ++ ([32, 125] : List UInt8)).length cap1) ((armS l1 q1) ++ ([32, 125] : List UInt8)) m _ (BytesAt.keep hby1 (Below.refl _ _)) (cell_keep hm hB)) (fun e w12 hR => ?_)
  obtain ⟨pr1, rfl, hbl8, hpk1, hsh1, hpl1, hpb1⟩ := hR
  refine ⟨_, rfl, ?_⟩
  replace hby1 := hby1.below hbl8
  replace hB := Below.andThen hB hbl8
  have hXp1 := Xs.of_new (B := 0) (M := []) (K := kPr) hpk1 (fun b hb => .inr (hpb1 b hb)) (fun _ _ => Nat.zero_le _) hml1
  clear hpk1 hpb1 hml1
  obtain ⟨xa, xb, xks, xas, hx1, hAr⟩ := arms_parse l1 lq1
  have hpr1 : parseR ((armS l1 q1) ++ ([32, 125] : List UInt8)) = (some ⟨[], [], .mk 12 xa E0B E0B xb xks xas⟩, 0, 0) := hx1
  refine At.set (d := 75) (u := .tuple #[.agg pr1.cs, zI, zI]) rfl (by rw [hpr1]) ?_
  obtain ⟨fa1, fa2⟩ := arm_at hAr (p := pr1) (by rw [hsh1, hpr1]; rfl)
  refine At.move rfl rfl ?_
  refine At.extract rfl rfl rfl ?_
  refine At.extract rfl rfl rfl ?_
  refine At.extract rfl rfl rfl ?_
  refine At.alloc ze37 rfl (fun b2 w13 F1 => ?_)
  have gb2 := F1.ge hB
  replace hby1 := hby1.fresh F1
  replace hXp1 := Xs.fresh hXp1 F1
  have hb2 : w13.heap[b2]? = some (.cells #[zN, zN, zI, zI, zS, zS, zI, zN, zN, zI, zS, zI, zN, zN, zI, zN, zI, zI, zS, zI, zN, zN, zI] 37) := F1.new
  replace hB := F1.below' hB
  refine At.storeAll rfl rfl hb2 (sz37.trans (congrArg some ((Xs.one hXp1)).size.symm)) ((Xs.one hXp1)).size.symm ((Xs.one hXp1)).one (fun w14 S1 => ?_)
  clear hby1
  replace hXp1 := Xs.set hXp1 S1 (by simp)
  replace hb2 : w14.heap[b2]? = some (.cells pr1.cs 37) := S1.new
  replace hB := S1.below' hB gb2
  refine At.assign rfl rfl ?_
  refine At.assign rfl rfl ?_
  refine At.ops0 ?_
  refine At.thenN ?_
  refine At.seq ?_
  refine At.region ?_
  refine At.move rfl rfl ?_
  refine At.catB (a := (clS q1)) (b := ([32, 125] : List UInt8)) rfl rfl rfl (by first | omega | (have q := armS_len l1 i (by omega); have q2 := dgs_len20 (n := i) (by omega); have q3 := clS_len i (by omega); have q4 := wv_lt l1 i; have q5 := vS_len (wv l1 i) (by omega); have q6 : (sepS i).length ≤ 2 := (by unfold sepS; split <;> decide); (try simp only [List.length_append, List.length_cons, List.length_nil]); omega) | (have q := armS_len l1 i (by omega); have q2 := dgs_len20 (n := i) (by omega); have q4 := wv_lt l1 i; have q5 := vS_len k (by omega); have q7 := dgs_len20 (n := k) (by omega); have q6 : (sepS i).length ≤ 2 := (by unfold sepS; split <;> decide); (try simp only [List.length_append, List.length_cons, List.length_nil]); omega) | (have q := armS_len l1 q1 (by omega); have q3 := clS_len q1 (by omega); (try simp only [List.length_append, List.length_cons, List.length_nil]); omega)) ?_
  refine At.toBytes (l := ((clS q1) ++ ([32, 125] : List UInt8))) rfl st9 el22 ik5 (by have q := armS_len l1 q1 (by omega); have q3 := clS_len q1 (by omega); (try simp only [List.length_append, List.length_cons, List.length_nil]); omega) rfl (fun b3 cap2 w15 hgbb2 hbl9 hby2 => ?_)
  replace hb2 := Below.old hbl9 hb2
  replace hXp1 := Xs.below hXp1 hbl9
  replace hB := Below.andThen hB hbl9
  have hml2 : MLt w15.heap.size [some b2] := (MLt.blk hb2 (MLt.nil _))
  refine At.call en13 rfl rfl (parse_any (.slice (some ⟨b3, 0, none⟩) ((clS q1) ++ ([32, 125] : List UInt8)).length cap2) ((clS q1) ++ ([32, 125] : List UInt8)) m _ (BytesAt.keep hby2 (Below.refl _ _)) (cell_keep hm hB)) (fun e w16 hR => ?_)
  obtain ⟨pr2, rfl, hbl10, hpk2, hsh2, hpl2, hpb2⟩ := hR
  refine ⟨_, rfl, ?_⟩
  replace hb2 := Below.old hbl10 hb2
  replace hby2 := hby2.below hbl10
  replace hXp1 := Xs.below hXp1 hbl10
  replace hB := Below.andThen hB hbl10
  have hXp2 := Xs.of_new (B := 0) (M := [some b2]) (K := kPr) hpk2 (fun b hb => .inr (hpb2 b hb)) (fun _ _ => Nat.zero_le _) hml2
  clear hpk2 hpb2 hml2
  obtain ⟨ya, yb, ynm, yks, yra, yas, hy1, hCr, yns, yx, rfl⟩ := cls_parse lq1
  have hpr2 : parseR ((clS q1) ++ ([32, 125] : List UInt8)) = (some ⟨[], [], .mk 14 ya ynm E0B yb yks (.mk retB yns yx :: yas)⟩, 0, 0) := hy1
  refine At.set (d := 83) (u := .tuple #[.agg pr2.cs, zI, zI]) rfl (by rw [hpr2]) ?_
  obtain ⟨fb1, fb2, fb3⟩ := cls_at hCr (p := pr2) (by rw [hsh2, hpr2]; rfl)
  refine At.move rfl rfl ?_
  refine At.extract rfl rfl rfl ?_
  refine At.extract rfl rfl rfl ?_
  refine At.extract rfl rfl rfl ?_
  refine At.alloc ze37 rfl (fun b4 w17 F2 => ?_)
  have n_b2_b4 : b2 ≠ b4 := Nat.ne_of_lt (F2.lt hb2)
  have gb4 := F2.ge hB
  replace hb2 := F2.old hb2
  replace hby2 := hby2.fresh F2
  replace hXp1 := Xs.fresh hXp1 F2
  replace hXp2 := Xs.fresh hXp2 F2
  have hb4 : w17.heap[b4]? = some (.cells #[zN, zN, zI, zI, zS, zS, zI, zN, zN, zI, zS, zI, zN, zN, zI, zN, zI, zI, zS, zI, zN, zN, zI] 37) := F2.new
  replace hB := F2.below' hB
  refine At.storeAll rfl rfl hb4 (sz37.trans (congrArg some ((Xs.one hXp2)).size.symm)) ((Xs.one hXp2)).size.symm ((Xs.one hXp2)).one (fun w18 S2 => ?_)
  replace hb2 := S2.other hb2 n_b2_b4
  clear hby2
  replace hXp1 := Xs.set hXp1 S2 (by simp)
  replace hXp2 := Xs.set hXp2 S2 (by simp)
  replace hb4 : w18.heap[b4]? = some (.cells pr2.cs 37) := S2.new
  replace hB := S2.below' hB gb4
  refine At.assign rfl rfl ?_
  refine At.assign rfl rfl ?_
  refine At.ops0 ?_
  refine At.thenN ?_
  refine At.seq ?_
  refine At.seq ?_
  refine At.region ?_
  refine At.move rfl rfl ?_
  refine At.neI rfl rfl rfl ?_
  refine At.set (d := 88) (u := .bool false) rfl (congrArg Value.bool (by simp)) ?_
  refine At.move rfl rfl ?_
  refine At.yes rfl rfl rfl rfl ?_
  refine At.move rfl rfl ?_
  refine At.yes rfl rfl rfl rfl ?_
  refine At.neI rfl rfl rfl ?_
  refine At.set (d := 91) (u := .bool false) rfl (congrArg Value.bool (by simp)) ?_
  refine At.pickF rfl rfl rfl ?_
  refine At.move rfl rfl ?_
  refine At.yes rfl rfl rfl rfl ?_
  refine At.fieldAddr rfl fo37_2 rfl ?_
  refine At.yes rfl rfl rfl rfl ?_
  refine At.fieldAddr rfl fo35_6 rfl ?_
  refine At.yes rfl rfl rfl rfl ?_
  refine At.load rfl (Ld.ownCell ag27 hb2 (sub_cell ((Xs.one hXp1)).bodyCs (((Xs.one hXp1)).bodyOk).c6)) rfl ?_
  refine At.yes rfl rfl rfl rfl ?_
  refine At.lenSl rfl ((((Xs.one hXp1)).bodyOk).armsAt).okL el27 rfl ?_
  refine At.yes rfl rfl rfl rfl ?_
  refine At.move rfl rfl ?_
  refine At.yes rfl rfl rfl rfl ?_
  refine At.neI rfl rfl rfl ?_
  refine At.pickF rfl rfl rfl ?_
  refine At.move rfl rfl ?_
  have hbb1 : ((!decide ((pr1.body.arms.length : Int) = (q1 : Int)))) = false := by simp [fa1, fb1]
  refine At.set (d := 101) (u := .bool false) rfl (congrArg Value.bool hbb1) ?_
  refine At.yes rfl rfl rfl rfl ?_
  refine At.fieldAddr rfl fo37_2 rfl ?_
  refine At.yes rfl rfl rfl rfl ?_
  refine At.fieldAddr rfl fo35_6 rfl ?_
  refine At.yes rfl rfl rfl rfl ?_
  refine At.load rfl (Ld.ownCell ag27 hb4 (sub_cell ((Xs.one hXp2)).bodyCs (((Xs.one hXp2)).bodyOk).c6)) rfl ?_
  refine At.yes rfl rfl rfl rfl ?_
  refine At.lenSl rfl ((((Xs.one hXp2)).bodyOk).armsAt).okL el27 rfl ?_
  refine At.yes rfl rfl rfl rfl ?_
  refine At.move rfl rfl ?_
  refine At.yes rfl rfl rfl rfl ?_
  refine At.addI rfl rfl rfl (by first | omega | (simp; omega)) ?_
  refine At.yes rfl rfl rfl rfl ?_
  refine At.neI rfl rfl rfl ?_
  refine At.pickF rfl rfl rfl ?_
  refine At.move rfl rfl ?_
  have hbb2 : ((!decide ((pr2.body.arms.length : Int) = ((q1 : Int) + 1)))) = false := by simp [fa1, fb1]
  refine At.set (d := 110) (u := .bool false) rfl (congrArg Value.bool hbb2) ?_
  refine At.yes rfl rfl rfl rfl ?_
  refine At.fieldAddr rfl fo37_2 rfl ?_
  refine At.yes rfl rfl rfl rfl ?_
  refine At.fieldAddr rfl fo35_6 rfl ?_
  refine At.yes rfl rfl rfl rfl ?_
  refine At.load rfl (Ld.ownCell ag27 hb4 (sub_cell ((Xs.one hXp2)).bodyCs (((Xs.one hXp2)).bodyOk).c6)) rfl ?_
  refine At.yes rfl rfl rfl rfl ?_
  obtain ⟨u2, hu2⟩ := some_of_lt (l := pr2.body.arms) (i := 0) (by first | omega | (simp; omega))
  refine At.indexAddr (i := 0) rfl rfl ((((Xs.one hXp2)).bodyOk).armsAt).okL (lt_of_some hu2) el27 sz61 rfl ?_
  refine At.yes rfl rfl rfl rfl ?_
  refine At.fieldAddr rfl fo61_0 rfl ?_
  refine At.yes rfl rfl rfl rfl ?_
  refine At.load rfl (Ld.cell ag9 (cell_keep ((((((Xs.one hXp2)).bodyOk).armsAt).row hu2).get (((((Xs.one hXp2)).bodyOk).arm hu2)).c0) (Below.refl _ _))) rfl ?_
  refine At.yes rfl rfl rfl rfl ?_
  refine At.neS rfl rfl rfl ?_
  refine At.pickF rfl rfl rfl ?_
  refine At.ops0 ?_
  refine At.thenN ?_
  have hb : ((!decide (u2.nm = (⟨#[114, 101, 116, 117, 114, 110]⟩ : ByteArray)))) = false := by simp [fa1, fb1, fb2 _ hu2]
  refine At.set (d := 118) (u := .bool false) rfl (congrArg Value.bool hb) ?_
  refine At.condF rfl ?_
  refine At.skip ?_
  refine At.thenN ?_
  refine At.seq ?_
  refine At.seq ?_
  refine At.region ?_
  refine At.assign rfl rfl ?_
  refine At.ops0 ?_
  refine At.thenN ?_
  refine At.block ?_
  refine At.loop (Nat) (fun i => [(0, .int .i64 (q1 : Int)), (1, v1), (5, .bool true), (10, .pointer (some ⟨b2, 0, none⟩)), (13, .pointer (some ⟨b4, 0, none⟩)), (16, .int .i64 (i : Int))]) (fun i w19 => Below w.heap.size w w19 ∧ w19.heap[b2]? = some (.cells pr1.cs 37) ∧ w19.heap[b4]? = some (.cells pr2.cs 37) ∧ Xs kPr [some b2, some b4] w19 [pr1] ∧ Xs kPr [some b2, some b4] w19 [pr2] ∧ (i ≤ q1)) (fun i => q1 - i) (0 : Nat) (Sub.cons rfl (Sub.cons rfl (Sub.cons rfl (Sub.cons rfl (Sub.cons rfl (Sub.cons rfl Sub.nil)))))) ⟨hB, hb2, hb4, (Xs.weaken (M' := [some b2, some b4]) hXp1 (SubM.cons (.tail _ (.head _)) (SubM.cons (.head _) SubM.nil))), (Xs.weaken (M' := [some b2, some b4]) hXp2 (SubM.cons (.tail _ (.head _)) (SubM.cons (.head _) SubM.nil))), (by omega)⟩ (fun i w19 hI => ?_)
  clear hB hb2 hb4 hXp1 hXp2
  obtain ⟨hB, hb2, hb4, hXp1, hXp2, hi⟩ := hI
  show At _ _ [(0, .int .i64 (q1 : Int)), (1, v1), (5, .bool true), (10, .pointer (some ⟨b2, 0, none⟩)), (13, .pointer (some ⟨b4, 0, none⟩)), (16, .int .i64 (i : Int))] _ _
  refine At.seq ?_
  refine At.seq ?_
  refine At.region ?_
  refine At.move rfl rfl ?_
  refine At.move rfl rfl ?_
  refine At.lss rfl rfl rfl ?_
  refine At.ops0 ?_
  refine At.thenN ?_
  refine At.cond (b := decide ((i : Int) < (q1 : Int))) rfl (fun hc5 => ?_) (fun hc5 => ?_)
  ·skip
   have hc5' := of_decide_eq_true hc5
   refine At.skip ?_
   refine At.thenN ?_
   refine At.seq ?_
   refine At.block ?_
   refine At.seq ?_
   refine At.region ?_
   refine At.fieldAddr rfl fo37_2 rfl ?_
   refine At.fieldAddr rfl fo35_6 rfl ?_
   refine At.load rfl (Ld.ownCell ag27 hb2 (sub_cell ((Xs.one hXp1)).bodyCs (((Xs.one hXp1)).bodyOk).c6)) rfl ?_
   refine At.move rfl rfl ?_
   obtain ⟨u3, hu3⟩ := some_of_lt (l := pr1.body.arms) (i := i) (by first | omega | (simp; omega))
   refine At.indexAddr (i := i) rfl rfl ((((Xs.one hXp1)).bodyOk).armsAt).okL (lt_of_some hu3) el27 sz61 rfl ?_
   refine At.load rfl (Ld.row ag61 (sz61.trans (congrArg some (((((Xs.one hXp1)).bodyOk).arm hu3)).size.symm)) ((((((Xs.one hXp1)).bodyOk).armsAt).row hu3).keep (Below.refl _ _))) rfl ?_
   refine At.alloc ze61 rfl (fun b5 w20 F3 => ?_)
   have n_b2_b5 : b2 ≠ b5 := Nat.ne_of_lt (F3.lt hb2)
   have n_b4_b5 : b4 ≠ b5 := Nat.ne_of_lt (F3.lt hb4)
   have gb5 := F3.ge hB
   replace hb2 := F3.old hb2
   replace hb4 := F3.old hb4
   replace hXp1 := Xs.fresh hXp1 F3
   replace hXp2 := Xs.fresh hXp2 F3
   have hb5 : w20.heap[b5]? = some (.cells #[zS, zN, zI, zI, zS, zS, zI, zN, zN, zI, zS, zI, zN, zN, zI, zN, zI, zI, zS, zI, zN, zN, zI] 61) := F3.new
   replace hB := F3.below' hB
   refine At.storeAll rfl rfl hb5 (sz61.trans (congrArg some (((((Xs.one hXp1)).bodyOk).arm hu3)).size.symm)) (((((Xs.one hXp1)).bodyOk).arm hu3)).size.symm (((((Xs.one hXp1)).bodyOk).arm hu3)).one (fun w21 S3 => ?_)
   replace hb2 := S3.other hb2 n_b2_b5
   replace hb4 := S3.other hb4 n_b4_b5
   replace hXp1 := Xs.set hXp1 S3 (by simp)
   replace hXp2 := Xs.set hXp2 S3 (by simp)
   replace hb5 : w21.heap[b5]? = some (.cells u3.cs 61) := S3.new
   replace hB := S3.below' hB gb5
   refine At.ops0 ?_
   refine At.thenN ?_
   refine At.seq ?_
   refine At.region ?_
   refine At.fieldAddr rfl fo37_2 rfl ?_
   refine At.fieldAddr rfl fo35_6 rfl ?_
   refine At.load rfl (Ld.ownCell ag27 hb4 (sub_cell ((Xs.one hXp2)).bodyCs (((Xs.one hXp2)).bodyOk).c6)) rfl ?_
   refine At.move rfl rfl ?_
   refine At.addI rfl rfl rfl (by first | omega | (simp; omega)) ?_
   obtain ⟨u4, hu4⟩ := some_of_lt (l := pr2.body.arms) (i := (i + 1)) (by first | omega | (simp; omega))
   refine At.indexAddr (i := (i + 1)) rfl rfl ((((Xs.one hXp2)).bodyOk).armsAt).okL (lt_of_some hu4) el27 sz61 rfl ?_
   refine At.load rfl (Ld.row ag61 (sz61.trans (congrArg some (((((Xs.one hXp2)).bodyOk).arm hu4)).size.symm)) ((((((Xs.one hXp2)).bodyOk).armsAt).row hu4).keep (Below.refl _ _))) rfl ?_
   refine At.alloc ze61 rfl (fun b6 w22 F4 => ?_)
   have n_b2_b6 : b2 ≠ b6 := Nat.ne_of_lt (F4.lt hb2)
   have n_b4_b6 : b4 ≠ b6 := Nat.ne_of_lt (F4.lt hb4)
   have n_b5_b6 : b5 ≠ b6 := Nat.ne_of_lt (F4.lt hb5)
   have gb6 := F4.ge hB
   replace hb2 := F4.old hb2
   replace hb4 := F4.old hb4
   replace hb5 := F4.old hb5
   replace hXp1 := Xs.fresh hXp1 F4
   replace hXp2 := Xs.fresh hXp2 F4
   have hb6 : w22.heap[b6]? = some (.cells #[zS, zN, zI, zI, zS, zS, zI, zN, zN, zI, zS, zI, zN, zN, zI, zN, zI, zI, zS, zI, zN, zN, zI] 61) := F4.new
   replace hB := F4.below' hB
   refine At.storeAll rfl rfl hb6 (sz61.trans (congrArg some (((((Xs.one hXp2)).bodyOk).arm hu4)).size.symm)) (((((Xs.one hXp2)).bodyOk).arm hu4)).size.symm (((((Xs.one hXp2)).bodyOk).arm hu4)).one (fun w23 S4 => ?_)
   replace hb2 := S4.other hb2 n_b2_b6
   replace hb4 := S4.other hb4 n_b4_b6
   replace hb5 := S4.other hb5 n_b5_b6
   replace hXp1 := Xs.set hXp1 S4 (by simp)
   replace hXp2 := Xs.set hXp2 S4 (by simp)
   replace hb6 : w23.heap[b6]? = some (.cells u4.cs 61) := S4.new
   replace hB := S4.below' hB gb6
   refine At.ops0 ?_
   refine At.thenN ?_
   refine At.seq ?_
   refine At.region ?_
   refine At.assign rfl rfl ?_
   refine At.ops0 ?_
   refine At.thenN ?_
   refine At.seq ?_
   refine At.seq ?_
   refine At.region ?_
   refine At.move rfl rfl ?_
   refine At.move rfl rfl ?_
   refine At.lenSl rfl hv1.ok el48 rfl ?_
   refine At.lss rfl rfl rfl ?_
   refine At.ops0 ?_
   refine At.thenN ?_
   refine At.joinC [(0, .int .i64 (q1 : Int)), (1, v1), (5, .bool true), (10, .pointer (some ⟨b2, 0, none⟩)), (13, .pointer (some ⟨b4, 0, none⟩)), (16, .int .i64 (i : Int)), (17, .pointer (some ⟨b5, 0, none⟩)), (18, .pointer (some ⟨b6, 0, none⟩)), (19, .int .i64 ((wv l1 i : Nat) : Int))] (fun w' => w23 = w') ?_ (fun w24 hS => ?_)
   ·skip
    refine At.cond (b := decide ((i : Int) < (l1.length : Int))) rfl (fun hc6 => ?_) (fun hc6 => ?_)
    ·skip
     have hc6' := of_decide_eq_true hc6
     refine At.region ?_
     refine At.move rfl rfl ?_
     refine At.move rfl rfl ?_
     obtain ⟨u5, hu5⟩ := some_of_lt (l := l1) (i := i) (by first | omega | (simp; omega))
     refine At.indexAddr (i := i) rfl rfl hv1.ok (lt_of_some hu5) el48 sz3 rfl ?_
     refine At.load rfl (Ld.cell ag3 (cell_keep ((hv1).get hu5) hB)) rfl ?_
     refine At.andI rfl rfl rfl ?_
     refine At.remI rfl rfl (by first | omega | (simp; omega)) rfl ?_
     obtain ⟨q3, hq3, lq3⟩ := and_mod u5 (k := 6) (by decide)
     refine At.set (d := 146) (u := .int .i64 (q3 : Int)) rfl (congrArg (Value.int .i64) hq3) ?_
     refine At.assign rfl rfl ?_
     refine At.ops0 ?_
     exact At.joinedC (Sub.cons rfl (Sub.cons rfl (Sub.cons rfl (Sub.cons rfl (Sub.cons rfl (Sub.cons rfl (Sub.cons rfl (Sub.cons rfl (Sub.cons (congrArg (fun n : Nat => some (Value.int .i64 (n : Int))) (wv_some hu5 hq3).symm) Sub.nil))))))))) rfl
    ·skip
     have hc6' := of_decide_eq_false hc6
     refine At.skip ?_
     exact At.joinedC (Sub.cons rfl (Sub.cons rfl (Sub.cons rfl (Sub.cons rfl (Sub.cons rfl (Sub.cons rfl (Sub.cons rfl (Sub.cons rfl (Sub.cons (by rw [wv_none hc6']; rfl) Sub.nil))))))))) rfl
   ·skip
    subst hS
    refine At.thenN ?_
    refine At.seq ?_
    have hbb3 : ((!decide (u3.nm = (bs (([67] : List UInt8) ++ (dgs i)))))) = false := by simp [fa1, fb1, fb2 _ hu2, fa2 _ _ hu3, fb3 _ _ hu4]
    have hbb4 : ((!decide ((u3.vars.length : Int) = ((wv l1 i : Nat) : Int)))) = false := by simp [fa1, fb1, fb2 _ hu2, fa2 _ _ hu3, fb3 _ _ hu4]
    have hbb5 : ((!decide (u3.body.n = (i : Int)))) = false := by simp [fa1, fb1, fb2 _ hu2, fa2 _ _ hu3, fb3 _ _ hu4]
    have hbb6 : ((!decide (u4.nm = (bs (([111, 112] : List UInt8) ++ (dgs i)))))) = false := by simp [fa1, fb1, fb2 _ hu2, fa2 _ _ hu3, fb3 _ _ hu4]
    have hbb7 : ((!decide ((u4.vars.length : Int) = 2))) = false := by simp [fa1, fb1, fb2 _ hu2, fa2 _ _ hu3, fb3 _ _ hu4]
    refine At.drawG (n := 41) mixed (by kernel_rfl) rfl (PanicOk.then (PanicOk.block (PanicOk.then (PanicOk.then (PanicOk.block (PanicOk.then PanicOk.body)))))) ?_
    have hB := Below.drewB hB
    have hb2 : _ := (show w23.drew.heap[b2]? = _ from hb2)
    have hb4 : _ := (show w23.drew.heap[b4]? = _ from hb4)
    have hb5 : _ := (show w23.drew.heap[b5]? = _ from hb5)
    have hb6 : _ := (show w23.drew.heap[b6]? = _ from hb6)
    have hXp1 := Xs.drew hXp1
    have hXp2 := Xs.drew hXp2
    refine At.wpcL #[false, false, false, false, false, false, false, false, false, false, false, false, false, false, false, false, false, false, false, false, false, false, false, false, false, false, false, false, false, false, false, false, false, false, false, false, false, false, false, false, false] (by kernel_rfl) ?_
    refine At.wpcS (i := 0) (d := 147) (.pointer (some ⟨b5, 0 + 0, none⟩)) (by kernel_rfl) rfl rfl rfl (fun Lx => ?_) ?_
    ·skip
     refine At.fieldAddr rfl fo61_0 rfl ?_
     refine At.ops0 ?_
     exact fun a ha => ⟨ha, rfl⟩
    refine At.wpcL #[true, false, false, false, false, false, false, false, false, false, false, false, false, false, false, false, false, false, false, false, false, false, false, false, false, false, false, false, false, false, false, false, false, false, false, false, false, false, false, false, false] (by kernel_rfl) ?_
    refine At.wpcS (i := 1) (d := 148) (.string u3.nm) (by kernel_rfl) rfl rfl rfl (fun Lx => ?_) ?_
    ·skip
     refine At.load rfl (Ld.ownCell ag9 hb5 (((((Xs.one hXp1)).bodyOk).arm hu3)).c0) rfl ?_
     refine At.ops0 ?_
     exact fun a ha => ⟨ha, rfl⟩
    refine At.wpcL #[true, true, false, false, false, false, false, false, false, false, false, false, false, false, false, false, false, false, false, false, false, false, false, false, false, false, false, false, false, false, false, false, false, false, false, false, false, false, false, false, false] (by kernel_rfl) ?_
    refine At.wpcS (i := 2) (d := 149) (.int .i64 (i : Int)) (by kernel_rfl) rfl rfl rfl (fun Lx => ?_) ?_
    ·skip
     refine At.move rfl rfl ?_
     refine At.ops0 ?_
     exact fun a ha => ⟨ha, rfl⟩
    refine At.wpcL #[true, true, true, false, false, false, false, false, false, false, false, false, false, false, false, false, false, false, false, false, false, false, false, false, false, false, false, false, false, false, false, false, false, false, false, false, false, false, false, false, false] (by kernel_rfl) ?_
    refine At.wpcF [3] (by kernel_rfl) (by kernel_rfl) (.cons [0, 1] [[3, 2]] rfl (by kernel_rfl) ?_ .nil)
    refine At.call en16 rfl rfl (digits_any i _ (by omega)) (fun e w25 hR => ?_)
    obtain ⟨rfl, hbl11⟩ := hR
    refine ⟨_, rfl, ?_⟩
    replace hb2 := Below.old hbl11 hb2
    replace hb4 := Below.old hbl11 hb4
    replace hb5 := Below.old hbl11 hb5
    replace hb6 := Below.old hbl11 hb6
    replace hXp1 := Xs.below hXp1 hbl11
    replace hXp2 := Xs.below hXp2 hbl11
    replace hB := Below.andThen hB hbl11
    refine At.ops0 ?_
    refine At.wpcN (.cons rfl rfl rfl rfl (fun Lx => ?_) (.cons rfl rfl rfl rfl (fun Lx => ?_) .nil)) ?_
    ·skip
     refine At.fieldAddr rfl fo61_0 rfl ?_
     refine At.ops0 ?_
     exact fun a ha => ⟨ha, rfl⟩
    ·skip
     refine At.load rfl (Ld.ownCell ag9 hb5 (((((Xs.one hXp1)).bodyOk).arm hu3)).c0) rfl ?_
     refine At.ops0 ?_
     exact fun a ha => ⟨ha, rfl⟩
    refine At.wpcL #[true, true, true, true, false, false, false, false, false, false, false, false, false, false, false, false, false, false, false, false, false, false, false, false, false, false, false, false, false, false, false, false, false, false, false, false, false, false, false, false, false] (by kernel_rfl) ?_
    refine At.wpcS (i := 4) (d := 151) (.string (bs (([67] : List UInt8) ++ (dgs i)))) (by kernel_rfl) rfl rfl rfl (fun Lx => ?_) ?_
    ·skip
     refine At.catB (a := ([67] : List UInt8)) (b := (dgs i)) rfl rfl rfl (by first | omega | (have q := armS_len l1 i (by omega); have q2 := dgs_len20 (n := i) (by omega); have q3 := clS_len i (by omega); have q4 := wv_lt l1 i; have q5 := vS_len (wv l1 i) (by omega); have q6 : (sepS i).length ≤ 2 := (by unfold sepS; split <;> decide); (try simp only [List.length_append, List.length_cons, List.length_nil]); omega) | (have q := armS_len l1 i (by omega); have q2 := dgs_len20 (n := i) (by omega); have q4 := wv_lt l1 i; have q5 := vS_len k (by omega); have q7 := dgs_len20 (n := k) (by omega); have q6 : (sepS i).length ≤ 2 := (by unfold sepS; split <;> decide); (try simp only [List.length_append, List.length_cons, List.length_nil]); omega) | (have q := armS_len l1 q1 (by omega); have q3 := clS_len q1 (by omega); (try simp only [List.length_append, List.length_cons, List.length_nil]); omega)) ?_
     refine At.ops0 ?_
     exact fun a ha => ⟨ha, rfl⟩
    refine At.wpcL #[true, true, true, true, true, false, false, false, false, false, false, false, false, false, false, false, false, false, false, false, false, false, false, false, false, false, false, false, false, false, false, false, false, false, false, false, false, false, false, false, false] (by kernel_rfl) ?_
    refine At.wpcS (i := 5) (d := 152) (.bool (!decide (u3.nm = (bs (([67] : List UInt8) ++ (dgs i)))))) (by kernel_rfl) rfl rfl rfl (fun Lx => ?_) ?_
    ·skip
     refine At.neS rfl rfl rfl ?_
     refine At.ops0 ?_
     exact fun a ha => ⟨ha, rfl⟩
    refine At.set (d := 152) (u := .bool false) rfl (congrArg Value.bool hbb3) ?_
    refine At.wpcL #[true, true, true, true, true, true, false, false, false, false, false, false, false, false, false, false, false, false, false, false, false, false, false, false, false, false, false, false, false, false, false, false, false, false, false, false, false, false, false, false, false] (by kernel_rfl) ?_
    refine At.wpcS (i := 6) (d := 153) (.bool false) (by kernel_rfl) rfl rfl rfl (fun Lx => ?_) ?_
    ·skip
     refine At.move rfl rfl ?_
     refine At.ops0 ?_
     exact fun a ha => ⟨ha, rfl⟩
    refine At.wpcL #[true, true, true, true, true, true, true, false, false, false, false, false, false, false, false, false, false, false, false, false, false, false, false, false, false, false, false, false, false, false, false, false, false, false, false, false, false, false, false, false, false] (by kernel_rfl) ?_
    refine At.wpcS (i := 7) (d := 154) (.pointer (some ⟨b5, 0 + 1, none⟩)) (by kernel_rfl) rfl rfl rfl (fun Lx => ?_) ?_
    ·skip
     refine At.yes rfl rfl rfl rfl ?_
     refine At.fieldAddr rfl fo61_1 rfl ?_
     refine At.ops0 ?_
     exact fun a ha => ⟨ha, rfl⟩
    refine At.wpcL #[true, true, true, true, true, true, true, true, false, false, false, false, false, false, false, false, false, false, false, false, false, false, false, false, false, false, false, false, false, false, false, false, false, false, false, false, false, false, false, false, false] (by kernel_rfl) ?_
    refine At.wpcS (i := 8) (d := 155) (u3.vv) (by kernel_rfl) rfl rfl rfl (fun Lx => ?_) ?_
    ·skip
     refine At.yes rfl rfl rfl rfl ?_
     refine At.load rfl (Ld.ownCell ag29 hb5 (((((Xs.one hXp1)).bodyOk).arm hu3)).c1) rfl ?_
     refine At.ops0 ?_
     exact fun a ha => ⟨ha, rfl⟩
    refine At.wpcL #[true, true, true, true, true, true, true, true, true, false, false, false, false, false, false, false, false, false, false, false, false, false, false, false, false, false, false, false, false, false, false, false, false, false, false, false, false, false, false, false, false] (by kernel_rfl) ?_
    refine At.wpcS (i := 9) (d := 156) (.int .i64 (u3.vars.length : Int)) (by kernel_rfl) rfl rfl rfl (fun Lx => ?_) ?_
    ·skip
     refine At.yes rfl rfl rfl rfl ?_
     refine At.lenSl rfl ((((((Xs.one hXp1)).bodyOk).arm hu3)).varsAt).ok el29 rfl ?_
     refine At.ops0 ?_
     exact fun a ha => ⟨ha, rfl⟩
    refine At.wpcL #[true, true, true, true, true, true, true, true, true, true, false, false, false, false, false, false, false, false, false, false, false, false, false, false, false, false, false, false, false, false, false, false, false, false, false, false, false, false, false, false, false] (by kernel_rfl) ?_
    refine At.wpcS (i := 10) (d := 157) (.int .i64 ((wv l1 i : Nat) : Int)) (by kernel_rfl) rfl rfl rfl (fun Lx => ?_) ?_
    ·skip
     refine At.yes rfl rfl rfl rfl ?_
     refine At.move rfl rfl ?_
     refine At.ops0 ?_
     exact fun a ha => ⟨ha, rfl⟩
    refine At.wpcL #[true, true, true, true, true, true, true, true, true, true, true, false, false, false, false, false, false, false, false, false, false, false, false, false, false, false, false, false, false, false, false, false, false, false, false, false, false, false, false, false, false] (by kernel_rfl) ?_
    refine At.wpcS (i := 11) (d := 158) (.bool (!decide ((u3.vars.length : Int) = ((wv l1 i : Nat) : Int)))) (by kernel_rfl) rfl rfl rfl (fun Lx => ?_) ?_
    ·skip
     refine At.yes rfl rfl rfl rfl ?_
     refine At.neI rfl rfl rfl ?_
     refine At.ops0 ?_
     exact fun a ha => ⟨ha, rfl⟩
    refine At.set (d := 158) (u := .bool false) rfl (congrArg Value.bool hbb4) ?_
    refine At.wpcL #[true, true, true, true, true, true, true, true, true, true, true, true, false, false, false, false, false, false, false, false, false, false, false, false, false, false, false, false, false, false, false, false, false, false, false, false, false, false, false, false, false] (by kernel_rfl) ?_
    refine At.wpcS (i := 12) (d := 159) (.bool false) (by kernel_rfl) rfl rfl rfl (fun Lx => ?_) ?_
    ·skip
     refine At.pickF rfl rfl rfl ?_
     refine At.ops0 ?_
     exact fun a ha => ⟨ha, rfl⟩
    refine At.wpcL #[true, true, true, true, true, true, true, true, true, true, true, true, true, false, false, false, false, false, false, false, false, false, false, false, false, false, false, false, false, false, false, false, false, false, false, false, false, false, false, false, false] (by kernel_rfl) ?_
    refine At.wpcS (i := 13) (d := 160) (.bool false) (by kernel_rfl) rfl rfl rfl (fun Lx => ?_) ?_
    ·skip
     refine At.move rfl rfl ?_
     refine At.ops0 ?_
     exact fun a ha => ⟨ha, rfl⟩
    refine At.wpcL #[true, true, true, true, true, true, true, true, true, true, true, true, true, true, false, false, false, false, false, false, false, false, false, false, false, false, false, false, false, false, false, false, false, false, false, false, false, false, false, false, false] (by kernel_rfl) ?_
    refine At.wpcS (i := 14) (d := 161) (.pointer (some ⟨b5, 0 + 2, none⟩)) (by kernel_rfl) rfl rfl rfl (fun Lx => ?_) ?_
    ·skip
     refine At.yes rfl rfl rfl rfl ?_
     refine At.fieldAddr rfl fo61_2 rfl ?_
     refine At.ops0 ?_
     exact fun a ha => ⟨ha, rfl⟩
    refine At.wpcL #[true, true, true, true, true, true, true, true, true, true, true, true, true, true, true, false, false, false, false, false, false, false, false, false, false, false, false, false, false, false, false, false, false, false, false, false, false, false, false, false, false] (by kernel_rfl) ?_
    refine At.wpcS (i := 15) (d := 162) (.pointer (some ⟨b5, 0 + 2 + 4, none⟩)) (by kernel_rfl) rfl rfl rfl (fun Lx => ?_) ?_
    ·skip
     refine At.yes rfl rfl rfl rfl ?_
     refine At.fieldAddr rfl fo35_4 rfl ?_
     refine At.ops0 ?_
     exact fun a ha => ⟨ha, rfl⟩
    refine At.wpcL #[true, true, true, true, true, true, true, true, true, true, true, true, true, true, true, true, false, false, false, false, false, false, false, false, false, false, false, false, false, false, false, false, false, false, false, false, false, false, false, false, false] (by kernel_rfl) ?_
    refine At.wpcS (i := 16) (d := 163) (.int .i64 u3.body.n) (by kernel_rfl) rfl rfl rfl (fun Lx => ?_) ?_
    ·skip
     refine At.yes rfl rfl rfl rfl ?_
     refine At.load rfl (Ld.ownCell ag3 hb5 (sub_cell (((((Xs.one hXp1)).bodyOk).arm hu3)).bodyCs ((((((Xs.one hXp1)).bodyOk).arm hu3)).body).c4)) rfl ?_
     refine At.ops0 ?_
     exact fun a ha => ⟨ha, rfl⟩
    refine At.wpcL #[true, true, true, true, true, true, true, true, true, true, true, true, true, true, true, true, true, false, false, false, false, false, false, false, false, false, false, false, false, false, false, false, false, false, false, false, false, false, false, false, false] (by kernel_rfl) ?_
    refine At.wpcS (i := 17) (d := 164) (.int .i64 (i : Int)) (by kernel_rfl) rfl rfl rfl (fun Lx => ?_) ?_
    ·skip
     refine At.yes rfl rfl rfl rfl ?_
     refine At.move rfl rfl ?_
     refine At.ops0 ?_
     exact fun a ha => ⟨ha, rfl⟩
    refine At.wpcL #[true, true, true, true, true, true, true, true, true, true, true, true, true, true, true, true, true, true, false, false, false, false, false, false, false, false, false, false, false, false, false, false, false, false, false, false, false, false, false, false, false] (by kernel_rfl) ?_
    refine At.wpcS (i := 18) (d := 165) (.bool (!decide (u3.body.n = (i : Int)))) (by kernel_rfl) rfl rfl rfl (fun Lx => ?_) ?_
    ·skip
     refine At.yes rfl rfl rfl rfl ?_
     refine At.neI rfl rfl rfl ?_
     refine At.ops0 ?_
     exact fun a ha => ⟨ha, rfl⟩
    refine At.set (d := 165) (u := .bool false) rfl (congrArg Value.bool hbb5) ?_
    refine At.wpcL #[true, true, true, true, true, true, true, true, true, true, true, true, true, true, true, true, true, true, true, false, false, false, false, false, false, false, false, false, false, false, false, false, false, false, false, false, false, false, false, false, false] (by kernel_rfl) ?_
    refine At.wpcS (i := 19) (d := 166) (.bool false) (by kernel_rfl) rfl rfl rfl (fun Lx => ?_) ?_
    ·skip
     refine At.pickF rfl rfl rfl ?_
     refine At.ops0 ?_
     exact fun a ha => ⟨ha, rfl⟩
    refine At.wpcL #[true, true, true, true, true, true, true, true, true, true, true, true, true, true, true, true, true, true, true, true, false, false, false, false, false, false, false, false, false, false, false, false, false, false, false, false, false, false, false, false, false] (by kernel_rfl) ?_
    refine At.wpcS (i := 20) (d := 167) (.bool false) (by kernel_rfl) rfl rfl rfl (fun Lx => ?_) ?_
    ·skip
     refine At.move rfl rfl ?_
     refine At.ops0 ?_
     exact fun a ha => ⟨ha, rfl⟩
    refine At.wpcL #[true, true, true, true, true, true, true, true, true, true, true, true, true, true, true, true, true, true, true, true, true, false, false, false, false, false, false, false, false, false, false, false, false, false, false, false, false, false, false, false, false] (by kernel_rfl) ?_
    refine At.wpcS (i := 21) (d := 168) (.pointer (some ⟨b6, 0 + 0, none⟩)) (by kernel_rfl) rfl rfl rfl (fun Lx => ?_) ?_
    ·skip
     refine At.yes rfl rfl rfl rfl ?_
     refine At.fieldAddr rfl fo61_0 rfl ?_
     refine At.ops0 ?_
     exact fun a ha => ⟨ha, rfl⟩
    refine At.wpcL #[true, true, true, true, true, true, true, true, true, true, true, true, true, true, true, true, true, true, true, true, true, true, false, false, false, false, false, false, false, false, false, false, false, false, false, false, false, false, false, false, false] (by kernel_rfl) ?_
    refine At.wpcS (i := 22) (d := 169) (.string u4.nm) (by kernel_rfl) rfl rfl rfl (fun Lx => ?_) ?_
    ·skip
     refine At.yes rfl rfl rfl rfl ?_
     refine At.load rfl (Ld.ownCell ag9 hb6 (((((Xs.one hXp2)).bodyOk).arm hu4)).c0) rfl ?_
     refine At.ops0 ?_
     exact fun a ha => ⟨ha, rfl⟩
    refine At.wpcL #[true, true, true, true, true, true, true, true, true, true, true, true, true, true, true, true, true, true, true, true, true, true, true, false, false, false, false, false, false, false, false, false, false, false, false, false, false, false, false, false, false] (by kernel_rfl) ?_
    refine At.wpcS (i := 23) (d := 170) (.int .i64 (i : Int)) (by kernel_rfl) rfl rfl rfl (fun Lx => ?_) ?_
    ·skip
     refine At.yes rfl rfl rfl rfl ?_
     refine At.move rfl rfl ?_
     refine At.ops0 ?_
     exact fun a ha => ⟨ha, rfl⟩
    refine At.wpcL #[true, true, true, true, true, true, true, true, true, true, true, true, true, true, true, true, true, true, true, true, true, true, true, true, false, false, false, false, false, false, false, false, false, false, false, false, false, false, false, false, false] (by kernel_rfl) ?_
    refine At.wpcF [24] (by kernel_rfl) (by kernel_rfl) (.cons [21, 22] [[24, 20, 13, 6, 5, 1, 0], [24, 20, 13, 6, 5, 1], [3, 2], [24, 20, 13, 6, 5, 4], [24, 20, 13, 6, 5], [24, 20, 13, 6], [24, 20, 13, 12, 11, 9, 8, 7], [24, 20, 13, 12, 11, 9, 8], [24, 20, 13, 12, 11, 9], [24, 20, 13, 12, 11, 10], [24, 20, 13, 12, 11], [24, 20, 13, 12], [24, 20, 13], [24, 20, 19, 18, 16, 15, 14], [24, 20, 19, 18, 16, 15], [24, 20, 19, 18, 16], [24, 20, 19, 18, 17], [24, 20, 19, 18], [24, 20, 19], [24, 20], [24, 23]] rfl (by kernel_rfl) ?_ .nil)
    refine At.yes rfl rfl rfl rfl ?_
    refine At.call en16 rfl rfl (digits_any i _ (by omega)) (fun e w26 hR => ?_)
    obtain ⟨rfl, hbl12⟩ := hR
    refine ⟨_, rfl, ?_⟩
    replace hb2 := Below.old hbl12 hb2
    replace hb4 := Below.old hbl12 hb4
    replace hb5 := Below.old hbl12 hb5
    replace hb6 := Below.old hbl12 hb6
    replace hXp1 := Xs.below hXp1 hbl12
    replace hXp2 := Xs.below hXp2 hbl12
    replace hB := Below.andThen hB hbl12
    refine At.ops0 ?_
    refine At.wpcN (.cons rfl rfl rfl rfl (fun Lx => ?_) (.cons rfl rfl rfl rfl (fun Lx => ?_) .nil)) ?_
    ·skip
     refine At.yes rfl rfl rfl rfl ?_
     refine At.fieldAddr rfl fo61_0 rfl ?_
     refine At.ops0 ?_
     exact fun a ha => ⟨ha, rfl⟩
    ·skip
     refine At.yes rfl rfl rfl rfl ?_
     refine At.load rfl (Ld.ownCell ag9 hb6 (((((Xs.one hXp2)).bodyOk).arm hu4)).c0) rfl ?_
     refine At.ops0 ?_
     exact fun a ha => ⟨ha, rfl⟩
    refine At.wpcL #[true, true, true, true, true, true, true, true, true, true, true, true, true, true, true, true, true, true, true, true, true, true, true, true, true, false, false, false, false, false, false, false, false, false, false, false, false, false, false, false, false] (by kernel_rfl) ?_
    refine At.wpcS (i := 25) (d := 172) (.string (bs (([111, 112] : List UInt8) ++ (dgs i)))) (by kernel_rfl) rfl rfl rfl (fun Lx => ?_) ?_
    ·skip
     refine At.yes rfl rfl rfl rfl ?_
     refine At.catB (a := ([111, 112] : List UInt8)) (b := (dgs i)) rfl rfl rfl (by first | omega | (have q := armS_len l1 i (by omega); have q2 := dgs_len20 (n := i) (by omega); have q3 := clS_len i (by omega); have q4 := wv_lt l1 i; have q5 := vS_len (wv l1 i) (by omega); have q6 : (sepS i).length ≤ 2 := (by unfold sepS; split <;> decide); (try simp only [List.length_append, List.length_cons, List.length_nil]); omega) | (have q := armS_len l1 i (by omega); have q2 := dgs_len20 (n := i) (by omega); have q4 := wv_lt l1 i; have q5 := vS_len k (by omega); have q7 := dgs_len20 (n := k) (by omega); have q6 : (sepS i).length ≤ 2 := (by unfold sepS; split <;> decide); (try simp only [List.length_append, List.length_cons, List.length_nil]); omega) | (have q := armS_len l1 q1 (by omega); have q3 := clS_len q1 (by omega); (try simp only [List.length_append, List.length_cons, List.length_nil]); omega)) ?_
     refine At.ops0 ?_
     exact fun a ha => ⟨ha, rfl⟩
    refine At.wpcL #[true, true, true, true, true, true, true, true, true, true, true, true, true, true, true, true, true, true, true, true, true, true, true, true, true, true, false, false, false, false, false, false, false, false, false, false, false, false, false, false, false] (by kernel_rfl) ?_
    refine At.wpcS (i := 26) (d := 173) (.bool (!decide (u4.nm = (bs (([111, 112] : List UInt8) ++ (dgs i)))))) (by kernel_rfl) rfl rfl rfl (fun Lx => ?_) ?_
    ·skip
     refine At.yes rfl rfl rfl rfl ?_
     refine At.neS rfl rfl rfl ?_
     refine At.ops0 ?_
     exact fun a ha => ⟨ha, rfl⟩
    refine At.set (d := 173) (u := .bool false) rfl (congrArg Value.bool hbb6) ?_
    refine At.wpcL #[true, true, true, true, true, true, true, true, true, true, true, true, true, true, true, true, true, true, true, true, true, true, true, true, true, true, true, false, false, false, false, false, false, false, false, false, false, false, false, false, false] (by kernel_rfl) ?_
    refine At.wpcS (i := 27) (d := 174) (.bool false) (by kernel_rfl) rfl rfl rfl (fun Lx => ?_) ?_
    ·skip
     refine At.pickF rfl rfl rfl ?_
     refine At.ops0 ?_
     exact fun a ha => ⟨ha, rfl⟩
    refine At.wpcL #[true, true, true, true, true, true, true, true, true, true, true, true, true, true, true, true, true, true, true, true, true, true, true, true, true, true, true, true, false, false, false, false, false, false, false, false, false, false, false, false, false] (by kernel_rfl) ?_
    refine At.wpcS (i := 28) (d := 175) (.bool false) (by kernel_rfl) rfl rfl rfl (fun Lx => ?_) ?_
    ·skip
     refine At.move rfl rfl ?_
     refine At.ops0 ?_
     exact fun a ha => ⟨ha, rfl⟩
    refine At.wpcL #[true, true, true, true, true, true, true, true, true, true, true, true, true, true, true, true, true, true, true, true, true, true, true, true, true, true, true, true, true, false, false, false, false, false, false, false, false, false, false, false, false] (by kernel_rfl) ?_
    refine At.wpcS (i := 29) (d := 176) (.pointer (some ⟨b6, 0 + 1, none⟩)) (by kernel_rfl) rfl rfl rfl (fun Lx => ?_) ?_
    ·skip
     refine At.yes rfl rfl rfl rfl ?_
     refine At.fieldAddr rfl fo61_1 rfl ?_
     refine At.ops0 ?_
     exact fun a ha => ⟨ha, rfl⟩
    refine At.wpcL #[true, true, true, true, true, true, true, true, true, true, true, true, true, true, true, true, true, true, true, true, true, true, true, true, true, true, true, true, true, true, false, false, false, false, false, false, false, false, false, false, false] (by kernel_rfl) ?_
    refine At.wpcS (i := 30) (d := 177) (u4.vv) (by kernel_rfl) rfl rfl rfl (fun Lx => ?_) ?_
    ·skip
     refine At.yes rfl rfl rfl rfl ?_
     refine At.load rfl (Ld.ownCell ag29 hb6 (((((Xs.one hXp2)).bodyOk).arm hu4)).c1) rfl ?_
     refine At.ops0 ?_
     exact fun a ha => ⟨ha, rfl⟩
    refine At.wpcL #[true, true, true, true, true, true, true, true, true, true, true, true, true, true, true, true, true, true, true, true, true, true, true, true, true, true, true, true, true, true, true, false, false, false, false, false, false, false, false, false, false] (by kernel_rfl) ?_
    refine At.wpcS (i := 31) (d := 178) (.int .i64 (u4.vars.length : Int)) (by kernel_rfl) rfl rfl rfl (fun Lx => ?_) ?_
    ·skip
     refine At.yes rfl rfl rfl rfl ?_
     refine At.lenSl rfl ((((((Xs.one hXp2)).bodyOk).arm hu4)).varsAt).ok el29 rfl ?_
     refine At.ops0 ?_
     exact fun a ha => ⟨ha, rfl⟩
    refine At.wpcL #[true, true, true, true, true, true, true, true, true, true, true, true, true, true, true, true, true, true, true, true, true, true, true, true, true, true, true, true, true, true, true, true, false, false, false, false, false, false, false, false, false] (by kernel_rfl) ?_
    refine At.wpcS (i := 32) (d := 179) (.bool (!decide ((u4.vars.length : Int) = 2))) (by kernel_rfl) rfl rfl rfl (fun Lx => ?_) ?_
    ·skip
     refine At.yes rfl rfl rfl rfl ?_
     refine At.neI rfl rfl rfl ?_
     refine At.ops0 ?_
     exact fun a ha => ⟨ha, rfl⟩
    refine At.set (d := 179) (u := .bool false) rfl (congrArg Value.bool hbb7) ?_
    refine At.wpcL #[true, true, true, true, true, true, true, true, true, true, true, true, true, true, true, true, true, true, true, true, true, true, true, true, true, true, true, true, true, true, true, true, true, false, false, false, false, false, false, false, false] (by kernel_rfl) ?_
    refine At.wpcS (i := 33) (d := 180) (.bool false) (by kernel_rfl) rfl rfl rfl (fun Lx => ?_) ?_
    ·skip
     refine At.pickF rfl rfl rfl ?_
     refine At.ops0 ?_
     exact fun a ha => ⟨ha, rfl⟩
    refine At.wpcL #[true, true, true, true, true, true, true, true, true, true, true, true, true, true, true, true, true, true, true, true, true, true, true, true, true, true, true, true, true, true, true, true, true, true, false, false, false, false, false, false, false] (by kernel_rfl) ?_
    refine At.wpcS (i := 34) (d := 181) (.bool false) (by kernel_rfl) rfl rfl rfl (fun Lx => ?_) ?_
    ·skip
     refine At.move rfl rfl ?_
     refine At.ops0 ?_
     exact fun a ha => ⟨ha, rfl⟩
    refine At.wpcL #[true, true, true, true, true, true, true, true, true, true, true, true, true, true, true, true, true, true, true, true, true, true, true, true, true, true, true, true, true, true, true, true, true, true, true, false, false, false, false, false, false] (by kernel_rfl) ?_
    refine At.wpcS (i := 35) (d := 182) (.pointer (some ⟨b6, 0 + 2, none⟩)) (by kernel_rfl) rfl rfl rfl (fun Lx => ?_) ?_
    ·skip
     refine At.yes rfl rfl rfl rfl ?_
     refine At.fieldAddr rfl fo61_2 rfl ?_
     refine At.ops0 ?_
     exact fun a ha => ⟨ha, rfl⟩
    refine At.wpcL #[true, true, true, true, true, true, true, true, true, true, true, true, true, true, true, true, true, true, true, true, true, true, true, true, true, true, true, true, true, true, true, true, true, true, true, true, false, false, false, false, false] (by kernel_rfl) ?_
    refine At.wpcS (i := 36) (d := 183) (.pointer (some ⟨b6, 0 + 2 + 4, none⟩)) (by kernel_rfl) rfl rfl rfl (fun Lx => ?_) ?_
    ·skip
     refine At.yes rfl rfl rfl rfl ?_
     refine At.fieldAddr rfl fo35_4 rfl ?_
     refine At.ops0 ?_
     exact fun a ha => ⟨ha, rfl⟩
    refine At.wpcL #[true, true, true, true, true, true, true, true, true, true, true, true, true, true, true, true, true, true, true, true, true, true, true, true, true, true, true, true, true, true, true, true, true, true, true, true, true, false, false, false, false] (by kernel_rfl) ?_
    refine At.wpcS (i := 37) (d := 184) (.int .i64 u4.body.n) (by kernel_rfl) rfl rfl rfl (fun Lx => ?_) ?_
    ·skip
     refine At.yes rfl rfl rfl rfl ?_
     refine At.load rfl (Ld.ownCell ag3 hb6 (sub_cell (((((Xs.one hXp2)).bodyOk).arm hu4)).bodyCs ((((((Xs.one hXp2)).bodyOk).arm hu4)).body).c4)) rfl ?_
     refine At.ops0 ?_
     exact fun a ha => ⟨ha, rfl⟩
    refine At.wpcL #[true, true, true, true, true, true, true, true, true, true, true, true, true, true, true, true, true, true, true, true, true, true, true, true, true, true, true, true, true, true, true, true, true, true, true, true, true, true, false, false, false] (by kernel_rfl) ?_
    refine At.wpcS (i := 38) (d := 185) (.int .i64 (i : Int)) (by kernel_rfl) rfl rfl rfl (fun Lx => ?_) ?_
    ·skip
     refine At.yes rfl rfl rfl rfl ?_
     refine At.move rfl rfl ?_
     refine At.ops0 ?_
     exact fun a ha => ⟨ha, rfl⟩
    refine At.wpcL #[true, true, true, true, true, true, true, true, true, true, true, true, true, true, true, true, true, true, true, true, true, true, true, true, true, true, true, true, true, true, true, true, true, true, true, true, true, true, true, false, false] (by kernel_rfl) ?_
    refine At.wpcS (i := 39) (d := 186) (.bool (!decide (u4.body.n = (i : Int)))) (by kernel_rfl) rfl rfl rfl (fun Lx => ?_) ?_
    ·skip
     refine At.yes rfl rfl rfl rfl ?_
     refine At.neI rfl rfl rfl ?_
     refine At.ops0 ?_
     exact fun a ha => ⟨ha, rfl⟩
    refine At.wpcL #[true, true, true, true, true, true, true, true, true, true, true, true, true, true, true, true, true, true, true, true, true, true, true, true, true, true, true, true, true, true, true, true, true, true, true, true, true, true, true, true, false] (by kernel_rfl) ?_
    refine At.wpcS (i := 40) (d := 187) (.bool (!decide (u4.body.n = (i : Int)))) (by kernel_rfl) rfl rfl rfl (fun Lx => ?_) ?_
    ·skip
     refine At.pickF rfl rfl rfl ?_
     refine At.ops0 ?_
     exact fun a ha => ⟨ha, rfl⟩
    refine At.wpcZ ?_
    refine At.thenN ?_
    have hb : ((!decide (u4.body.n = (i : Int)))) = false := by simp [fa1, fb1, fb2 _ hu2, fa2 _ _ hu3, fb3 _ _ hu4]
    refine At.set (d := 187) (u := .bool false) rfl (congrArg Value.bool hb) ?_
    refine At.condF rfl ?_
    refine At.skip ?_
    refine At.inN ?_
    refine At.thenN ?_
    refine At.region ?_
    refine At.move rfl rfl ?_
    refine At.addI rfl rfl rfl (by first | omega | (simp; omega)) ?_
    refine At.assign rfl rfl ?_
    refine At.ops0 ?_
    refine At.thenN ?_
    exact fun act_ hact_ => ⟨(i + 1), hact_.sub (Sub.cons rfl (Sub.cons rfl (Sub.cons rfl (Sub.cons rfl (Sub.cons rfl (Sub.cons rfl Sub.nil)))))), ⟨hB, hb2, hb4, (Xs.weaken (M' := [some b2, some b4]) hXp1 (SubM.cons (.tail _ (.tail _ (.head _))) (SubM.cons (.tail _ (.tail _ (.tail _ (.head _)))) SubM.nil))), (Xs.weaken (M' := [some b2, some b4]) hXp2 (SubM.cons (.tail _ (.tail _ (.head _))) (SubM.cons (.tail _ (.tail _ (.tail _ (.head _)))) SubM.nil))), (by omega)⟩, by first | omega | (dsimp only; omega)⟩
  ·skip
   have hc5' := of_decide_eq_false hc5
   refine At.exit ?_
   refine At.thenE ?_
   refine At.thenE ?_
   refine At.inE ?_
   refine At.thenN ?_
   refine At.seq ?_
   refine At.region ?_
   refine At.move rfl rfl ?_
   refine At.assign rfl rfl ?_
   refine At.ops0 ?_
   refine At.thenN ?_
   refine At.retc ?_
   refine At.doneR (ResV.tmp rfl ResV.nil) ?_
   exact ⟨rfl, hB⟩
end Go.Proofs.Ytkjmjnddanhapaa
