/-
  Terms and programs of the call's own; what every statement begins with; the laws on texts. Plain lemmas; no condition beyond those that stand in each statement.
-/
import Derived.Test.YtkclecfbjfdfkaaGreatDoorP5
import Derived.Test.YtkclecfbjfdfkaaGreatDoorL6
namespace Go.Proofs.YtkclecfbjfdfkaaGreatDoor
open Go.RowKit

def ownTm (k at_ : Int) (nm pm : ByteArray) (n : Int) (kv : Value) (kids : List Tm) : Tm :=
  .mk #[.int .i64 k, .int .i64 at_, .string nm, .string pm, .int .i64 n, kv, .slice none 0 0, .int .i64 0, .string emp, .int .i64 0, .slice none 0 0, .slice none 0 0, .int .i64 0, .slice none 0 0, .int .i64 0, .int .i64 0, .string emp, .int .i64 0, .slice none 0 0, .slice none 0 0, .int .i64 0] k at_ nm pm n kv (.slice none 0 0) kids []
theorem ownTm_leaf (w : World) (k at_ : Int) (nm pm : ByteArray) (n : Int) : TmOk w (ownTm k at_ nm pm n (.slice none 0 0) []) :=
  .mk ⟨rfl, by simp [ownTm, Tm.cs, Value.oneCell'], rfl, rfl, rfl, rfl, rfl, rfl, rfl, RowsAt.nil w 21, RowsAt.nil w 23⟩ (fun _ h => by cases h) (fun _ h => by cases h)
theorem ownTm_ok {w : World} {b m : Nat} {ks : List Tm} {T : TypeId} {fr : Nat × Nat} (k at_ : Int) (nm pm : ByteArray) (n : Int) (h : w.heap[b]? = some (.cells ((ks.map Tm.cs).flatMap (·.toList)).toArray T fr)) (hk : ∀ u ∈ ks, TmOk w u) (hm : m = ks.length) (hl : m ≤ 9223372036854775807) :
    TmOk w (ownTm k at_ nm pm n (.slice (some ⟨b, 0, none⟩) m m) ks) :=
  .mk ⟨rfl, by simp [ownTm, Tm.cs, Value.oneCell'], rfl, rfl, rfl, rfl, rfl, rfl, rfl,
    RowsAt.own (rows := ks.map Tm.cs) h (by intro r hr; obtain ⟨u, hu, rfl⟩ := List.mem_map.1 hr; exact (hk u hu).size) (by simpa using hm) (Nat.le_refl _) hl, RowsAt.nil w 23⟩ hk (fun _ h => by cases h)

/-- A program of these parts. -/
def mkPr (ev dv : Value) (effs : List Eff) (dats : List Dat) (t : Tm) : Pr := { cs := #[ev, dv] ++ t.cs, ev := ev, dv := dv, effs := effs, dats := dats, body := t }
theorem mkPr_ok {w : World} {ev dv : Value} {effs : List Eff} {dats : List Dat} {t : Tm} (h1 : RowsAt w ev 2 (effs.map Eff.cs)) (h2 : RowsAt w dv 2 (dats.map Dat.cs)) (h3 : ∀ e ∈ effs, EffOk w e) (h4 : ∀ d ∈ dats, DatOk w d) (h5 : TmOk w t) : PrOk w (mkPr ev dv effs dats t) := by
  have hs := h5.size
  refine ⟨by simp [mkPr, hs], ?_, by show (#[ev, dv] ++ t.cs)[0]? = _; rw [Array.getElem?_append_left (by simp)]; rfl, by show (#[ev, dv] ++ t.cs)[1]? = _; rw [Array.getElem?_append_left (by simp)]; rfl, h1, h2, h3, h4, ?_, h5⟩
  · have ho := h5.one
    show (#[ev, dv] ++ t.cs).all (·.oneCell') = true
    rw [Array.all_append, ho]
    simp [h1.ok.one, h2.ok.one]
  · show (#[ev, dv] ++ t.cs).extract 2 (2 + 21) = t.cs
    apply Array.ext'
    simp [Array.toList_extract, List.extract]
    rw [List.take_of_length_le (by rw [Array.length_toList]; omega)]
theorem splice_pr {z : Array Value} {ev dv : Value} {cs : Array Value} (hz : z.size = 23) (hc : cs.size = 21) (h0 : z[0]? = some ev) (h1 : z[1]? = some dv) : splice z 2 cs = #[ev, dv] ++ cs := by
  apply Array.ext'
  unfold splice
  have e : z.toList.take 2 = [ev, dv] := by
    have a0 : z.toList[0]? = some ev := by simpa using h0
    have a1 : z.toList[1]? = some dv := by simpa using h1
    rw [List.take_add_one, List.take_add_one, List.take_zero, a0, a1]; rfl
  have e2 : z.toList.drop (2 + cs.size) = [] := List.drop_eq_nil_of_le (by rw [Array.length_toList]; omega)
  simp [e, e2]
theorem mkPr_eff (ev dv : Value) (effs : List Eff) (dats : List Dat) (t : Tm) : (mkPr ev dv effs dats t).effs = effs := rfl
-- ------------------------------------------------------------------ what every statement begins with
theorem nm_of {s : ByteArray} {k : Int} {T : Tk} (h : lexW 0 (byt s) = .ok [T]) (hl : (byt s).length ≤ 1000) (hk : T.k = k) (ht : T.t = byt s) : nmB k s = true := by
  obtain ⟨h1, _, h3⟩ := lex_ok (by omega) h
  have ho : oneT s = T := one_is (by rw [h1]; rfl)
  unfold nmB noNm
  rw [h1, h3, ho, hk, ht]; simp
theorem nm_f : nmB 2 (⟨#[102]⟩ : ByteArray) = true := nm_of (T := ⟨2, [102], 0, 0⟩) (lex_is (by kernel_rfl)) (by decide) rfl rfl
theorem nm_x : nmB 2 (⟨#[120]⟩ : ByteArray) = true := nm_of (T := ⟨2, [120], 0, 0⟩) (lex_is (by kernel_rfl)) (by decide) rfl rfl
theorem nm_y : nmB 2 (⟨#[121]⟩ : ByteArray) = true := nm_of (T := ⟨2, [121], 0, 0⟩) (lex_is (by kernel_rfl)) (by decide) rfl rfl
theorem k_plus : kidsOf (⟨#[43]⟩ : ByteArray) = 2 := by decide
theorem right_v {s : ByteArray} (h : nmB 2 s = true) : rightB (ownTm 1 0 s (⟨#[]⟩ : ByteArray) 0 (.slice none 0 0) []) = true := by
  simp [ownTm, rightB, rightL, rightA, aloneB, hasT, hasB, Tm.k, Tm.nm, Tm.pm, Tm.n, Tm.kids, Tm.arms, h]
theorem right_app {kv : Value} {a b : Tm} (h1 : rightB a = true) (h2 : rightB b = true) : rightB (ownTm 6 0 (⟨#[]⟩ : ByteArray) (⟨#[]⟩ : ByteArray) 0 kv [a, b]) = true := by
  simp [ownTm, rightB, rightL, rightA, aloneB, hasT, hasB, Tm.k, Tm.nm, Tm.pm, Tm.n, Tm.kids, Tm.arms, h1, h2]
theorem right_one : rightB (ownTm 2 0 (⟨#[]⟩ : ByteArray) (⟨#[]⟩ : ByteArray) 1 (.slice none 0 0) []) = true := by
  simp [ownTm, rightB, rightL, rightA, aloneB, hasT, hasB, Tm.k, Tm.nm, Tm.pm, Tm.n, Tm.kids, Tm.arms]
theorem right_plus {kv : Value} {a b : Tm} (h1 : rightB a = true) (h2 : rightB b = true) : rightB (ownTm 10 0 (⟨#[43]⟩ : ByteArray) (⟨#[]⟩ : ByteArray) 0 kv [a, b]) = true := by
  simp [ownTm, rightB, rightL, rightA, aloneB, hasT, hasB, Tm.k, Tm.nm, Tm.pm, Tm.n, Tm.kids, Tm.arms, h1, h2, k_plus]
theorem sz_own (k at_ : Int) (nm pm : ByteArray) (n : Int) (kv : Value) (ks : List Tm) (h1 : nm.size ≤ 4194304) (h2 : pm.size ≤ 4194304) (h3 : n ≤ 9223372036854775807) (hk : szL ks) : szT (ownTm k at_ nm pm n kv ks) := by
  unfold ownTm; rw [szT]; exact ⟨h1, h2, ⟨hk, trivial⟩, h3⟩
theorem itoa_one : itoaW 1 = (⟨#[49]⟩ : ByteArray) := by
  unfold itoaW Lib.itoa; rw [if_neg (by decide), show (1 : Int).toNat = 1 from rfl, Lib.decDigits_one (by decide)]; rfl
theorem ew_v (s : ByteArray) : eaT (ownTm 1 0 s (⟨#[]⟩ : ByteArray) 0 (.slice none 0 0) []) = ⟨1, [s], [s]⟩ := by
  unfold ownTm; simp [eaT, nodeA, nodeS, nodeE]
theorem ew_one : eaT (ownTm 2 0 (⟨#[]⟩ : ByteArray) (⟨#[]⟩ : ByteArray) 1 (.slice none 0 0) []) = ⟨2, [(⟨#[49]⟩ : ByteArray)], [(⟨#[49]⟩ : ByteArray)]⟩ := by
  unfold ownTm; simp [eaT, nodeA, nodeS, nodeE, itoa_one]
theorem ew_app (kv : Value) (a b : Tm) : eaT (ownTm 6 0 (⟨#[]⟩ : ByteArray) (⟨#[]⟩ : ByteArray) 0 kv [a, b]) = ⟨6, (if (eaT a).k = 6 then (eaT a).e else (eaT a).a) ++ (eaT b).a, ([(⟨#[40]⟩ : ByteArray)] ++ ((if (eaT a).k = 6 then (eaT a).e else (eaT a).a) ++ (eaT b).a)) ++ [(⟨#[41]⟩ : ByteArray)]⟩ := by
  unfold ownTm; simp [eaT, eaL, nodeA, nodeS, nodeE, eK, aK]
theorem ew_plus (kv : Value) (a b : Tm) : exprW (ownTm 10 0 (⟨#[43]⟩ : ByteArray) (⟨#[]⟩ : ByteArray) 0 kv [a, b]) = ((eaT a).a ++ [(⟨#[43]⟩ : ByteArray)]) ++ (eaT b).a := by
  unfold exprW ownTm; simp [eaT, eaL, nodeA, nodeS, nodeE, eK, aK]
theorem dp_own (k at_ : Int) (nm pm : ByteArray) (n : Int) (kv : Value) (ks : List Tm) : dpT (ownTm k at_ nm pm n kv ks) = max (dpL ks) 0 + 1 := by unfold ownTm; rw [dpT]; rfl
theorem sh_written (k1 k2 : Value) : writtenB (ownTm 10 0 (⟨#[43]⟩ : ByteArray) (⟨#[]⟩ : ByteArray) 0 k2 [(ownTm 6 0 (⟨#[]⟩ : ByteArray) (⟨#[]⟩ : ByteArray) 0 k1 [(ownTm 1 0 (⟨#[102]⟩ : ByteArray) (⟨#[]⟩ : ByteArray) 0 (.slice none 0 0) []), (ownTm 1 0 (⟨#[120]⟩ : ByteArray) (⟨#[]⟩ : ByteArray) 0 (.slice none 0 0) [])]), (ownTm 2 0 (⟨#[]⟩ : ByteArray) (⟨#[]⟩ : ByteArray) 1 (.slice none 0 0) [])]) = true ∧ writtenB (ownTm 6 0 (⟨#[]⟩ : ByteArray) (⟨#[]⟩ : ByteArray) 0 k2 [(ownTm 6 0 (⟨#[]⟩ : ByteArray) (⟨#[]⟩ : ByteArray) 0 k1 [(ownTm 1 0 (⟨#[102]⟩ : ByteArray) (⟨#[]⟩ : ByteArray) 0 (.slice none 0 0) []), (ownTm 1 0 (⟨#[120]⟩ : ByteArray) (⟨#[]⟩ : ByteArray) 0 (.slice none 0 0) [])]), (ownTm 1 0 (⟨#[121]⟩ : ByteArray) (⟨#[]⟩ : ByteArray) 0 (.slice none 0 0) [])]) = true ∧ writtenB (ownTm 6 0 (⟨#[]⟩ : ByteArray) (⟨#[]⟩ : ByteArray) 0 k1 [(ownTm 1 0 (⟨#[102]⟩ : ByteArray) (⟨#[]⟩ : ByteArray) 0 (.slice none 0 0) []), (ownTm 1 0 (⟨#[120]⟩ : ByteArray) (⟨#[]⟩ : ByteArray) 0 (.slice none 0 0) [])]) = true := by
  have r1 := right_app (kv := k1) (right_v nm_f) (right_v nm_x)
  refine ⟨?_, ?_, ?_⟩
  · unfold writtenB; rw [right_plus r1 right_one]; simp [dp_own, dpL]
  · unfold writtenB; rw [right_app r1 (right_v nm_y)]; simp [dp_own, dpL]
  · unfold writtenB; rw [r1]; simp [dp_own, dpL]
theorem sh_words (k1 k2 : Value) : exprW (ownTm 10 0 (⟨#[43]⟩ : ByteArray) (⟨#[]⟩ : ByteArray) 0 k2 [(ownTm 6 0 (⟨#[]⟩ : ByteArray) (⟨#[]⟩ : ByteArray) 0 k1 [(ownTm 1 0 (⟨#[102]⟩ : ByteArray) (⟨#[]⟩ : ByteArray) 0 (.slice none 0 0) []), (ownTm 1 0 (⟨#[120]⟩ : ByteArray) (⟨#[]⟩ : ByteArray) 0 (.slice none 0 0) [])]), (ownTm 2 0 (⟨#[]⟩ : ByteArray) (⟨#[]⟩ : ByteArray) 1 (.slice none 0 0) [])]) = [(⟨#[40]⟩ : ByteArray), (⟨#[102]⟩ : ByteArray), (⟨#[120]⟩ : ByteArray), (⟨#[41]⟩ : ByteArray), (⟨#[43]⟩ : ByteArray), (⟨#[49]⟩ : ByteArray)] ∧ exprW (ownTm 6 0 (⟨#[]⟩ : ByteArray) (⟨#[]⟩ : ByteArray) 0 k2 [(ownTm 6 0 (⟨#[]⟩ : ByteArray) (⟨#[]⟩ : ByteArray) 0 k1 [(ownTm 1 0 (⟨#[102]⟩ : ByteArray) (⟨#[]⟩ : ByteArray) 0 (.slice none 0 0) []), (ownTm 1 0 (⟨#[120]⟩ : ByteArray) (⟨#[]⟩ : ByteArray) 0 (.slice none 0 0) [])]), (ownTm 1 0 (⟨#[121]⟩ : ByteArray) (⟨#[]⟩ : ByteArray) 0 (.slice none 0 0) [])]) = [(⟨#[102]⟩ : ByteArray), (⟨#[120]⟩ : ByteArray), (⟨#[121]⟩ : ByteArray)] ∧ exprW (ownTm 6 0 (⟨#[]⟩ : ByteArray) (⟨#[]⟩ : ByteArray) 0 k1 [(ownTm 1 0 (⟨#[102]⟩ : ByteArray) (⟨#[]⟩ : ByteArray) 0 (.slice none 0 0) []), (ownTm 1 0 (⟨#[120]⟩ : ByteArray) (⟨#[]⟩ : ByteArray) 0 (.slice none 0 0) [])]) = [(⟨#[102]⟩ : ByteArray), (⟨#[120]⟩ : ByteArray)] := by
  refine ⟨?_, ?_, ?_⟩
  · rw [ew_plus, ew_app, ew_v, ew_v, ew_one]; simp
  · unfold exprW; rw [ew_app, ew_app, ew_v, ew_v, ew_v]; simp
  · unfold exprW; rw [ew_app, ew_v, ew_v]; simp
theorem sh_text (k1 k2 : Value) : termL (ownTm 10 0 (⟨#[43]⟩ : ByteArray) (⟨#[]⟩ : ByteArray) 0 k2 [(ownTm 6 0 (⟨#[]⟩ : ByteArray) (⟨#[]⟩ : ByteArray) 0 k1 [(ownTm 1 0 (⟨#[102]⟩ : ByteArray) (⟨#[]⟩ : ByteArray) 0 (.slice none 0 0) []), (ownTm 1 0 (⟨#[120]⟩ : ByteArray) (⟨#[]⟩ : ByteArray) 0 (.slice none 0 0) [])]), (ownTm 2 0 (⟨#[]⟩ : ByteArray) (⟨#[]⟩ : ByteArray) 1 (.slice none 0 0) [])]) = ([40, 32, 102, 32, 120, 32, 41, 32, 43, 32, 49] : List UInt8) ∧ termL (ownTm 6 0 (⟨#[]⟩ : ByteArray) (⟨#[]⟩ : ByteArray) 0 k2 [(ownTm 6 0 (⟨#[]⟩ : ByteArray) (⟨#[]⟩ : ByteArray) 0 k1 [(ownTm 1 0 (⟨#[102]⟩ : ByteArray) (⟨#[]⟩ : ByteArray) 0 (.slice none 0 0) []), (ownTm 1 0 (⟨#[120]⟩ : ByteArray) (⟨#[]⟩ : ByteArray) 0 (.slice none 0 0) [])]), (ownTm 1 0 (⟨#[121]⟩ : ByteArray) (⟨#[]⟩ : ByteArray) 0 (.slice none 0 0) [])]) = ([102, 32, 120, 32, 121] : List UInt8) ∧ termL (ownTm 6 0 (⟨#[]⟩ : ByteArray) (⟨#[]⟩ : ByteArray) 0 k1 [(ownTm 1 0 (⟨#[102]⟩ : ByteArray) (⟨#[]⟩ : ByteArray) 0 (.slice none 0 0) []), (ownTm 1 0 (⟨#[120]⟩ : ByteArray) (⟨#[]⟩ : ByteArray) 0 (.slice none 0 0) [])]) = ([102, 32, 120] : List UInt8) := by
  obtain ⟨a1, a2, a3⟩ := sh_written k1 k2
  obtain ⟨b1, b2, b3⟩ := sh_words k1 k2
  refine ⟨?_, ?_, ?_⟩
  · unfold termL; rw [if_pos a1, b1]; decide
  · unfold termL; rw [if_pos a2, b2]; decide
  · unfold termL; rw [if_pos a3, b3]; decide
theorem sh_few (k1 k2 : Value) : FewW (exprW (ownTm 10 0 (⟨#[43]⟩ : ByteArray) (⟨#[]⟩ : ByteArray) 0 k2 [(ownTm 6 0 (⟨#[]⟩ : ByteArray) (⟨#[]⟩ : ByteArray) 0 k1 [(ownTm 1 0 (⟨#[102]⟩ : ByteArray) (⟨#[]⟩ : ByteArray) 0 (.slice none 0 0) []), (ownTm 1 0 (⟨#[120]⟩ : ByteArray) (⟨#[]⟩ : ByteArray) 0 (.slice none 0 0) [])]), (ownTm 2 0 (⟨#[]⟩ : ByteArray) (⟨#[]⟩ : ByteArray) 1 (.slice none 0 0) [])])) ∧ FewW (exprW (ownTm 6 0 (⟨#[]⟩ : ByteArray) (⟨#[]⟩ : ByteArray) 0 k2 [(ownTm 6 0 (⟨#[]⟩ : ByteArray) (⟨#[]⟩ : ByteArray) 0 k1 [(ownTm 1 0 (⟨#[102]⟩ : ByteArray) (⟨#[]⟩ : ByteArray) 0 (.slice none 0 0) []), (ownTm 1 0 (⟨#[120]⟩ : ByteArray) (⟨#[]⟩ : ByteArray) 0 (.slice none 0 0) [])]), (ownTm 1 0 (⟨#[121]⟩ : ByteArray) (⟨#[]⟩ : ByteArray) 0 (.slice none 0 0) [])])) ∧ FewW (exprW (ownTm 6 0 (⟨#[]⟩ : ByteArray) (⟨#[]⟩ : ByteArray) 0 k1 [(ownTm 1 0 (⟨#[102]⟩ : ByteArray) (⟨#[]⟩ : ByteArray) 0 (.slice none 0 0) []), (ownTm 1 0 (⟨#[120]⟩ : ByteArray) (⟨#[]⟩ : ByteArray) 0 (.slice none 0 0) [])])) := by
  obtain ⟨b1, b2, b3⟩ := sh_words k1 k2
  have q : ∀ l : List ByteArray, (l.all fun x => decide (x.size ≤ 4194306)) = true → l.length ≤ 30000000 → FewW l := fun l h1 h2 => ⟨h2, fun x hx => by simpa using List.all_eq_true.1 h1 x hx⟩
  rw [b1, b2, b3]
  exact ⟨q _ (by decide) (by decide), q _ (by decide) (by decide), q _ (by decide) (by decide)⟩
/-- A program that is its body alone. -/
theorem right_bodyPr (t : Tm) : RightB (mkPr (.slice none 0 0) (.slice none 0 0) [] [] t) = writtenB t := by unfold RightB mkPr; simp
theorem print_bodyPr (t : Tm) : printW (mkPr (.slice none 0 0) (.slice none 0 0) [] [] t) = exprW t := by unfold printW declW mkPr; simp
theorem text_bodyPr (t : Tm) : printL (mkPr (.slice none 0 0) (.slice none 0 0) [] [] t) = termL t := by unfold printL termL; rw [right_bodyPr, print_bodyPr]
theorem zero_written : writtenB (ownTm 0 0 (⟨#[]⟩ : ByteArray) (⟨#[]⟩ : ByteArray) 0 (.slice none 0 0) []) = false := by
  have : rightB (ownTm 0 0 (⟨#[]⟩ : ByteArray) (⟨#[]⟩ : ByteArray) 0 (.slice none 0 0) []) = false := by simp [ownTm, rightB, rightL, rightA, aloneB, Tm.k]
  unfold writtenB; rw [this, Bool.and_false]
-- ------------------------------------------------------------------ the laws on texts
theorem join_nil : joinL [] = [] := rfl
theorem join_one (x : ByteArray) : joinL [x] = byt x := by simp [joinL, Lib.join, List.intercalate]
theorem join_cons (x y : ByteArray) (r : List ByteArray) : joinL (x :: y :: r) = byt x ++ 32 :: joinL (y :: r) := by simp [joinL, Lib.join, List.intercalate]
theorem join_app : ∀ (a b : List ByteArray), a ≠ [] → b ≠ [] → joinL (a ++ b) = joinL a ++ 32 :: joinL b := by
  intro a
  induction a with
  | nil => intro b h; exact absurd rfl h
  | cons x r ih =>
    intro b _ hb
    cases r with
    | nil => obtain ⟨y, s, rfl⟩ := List.exists_cons_of_ne_nil hb; rw [List.cons_append, List.nil_append, join_cons, join_one]
    | cons y r => rw [List.cons_append, List.cons_append, join_cons, join_cons, ← List.cons_append, ih b (by simp) hb]; simp
theorem exprW_ne {t : Tm} (h : rightB t = true) : exprW t ≠ [] := by
  have hr := right_f h
  have h1 := hr.lo
  have h2 := hr.hi
  have hA : ∀ u ∈ t.kids, atomW u ≠ [] := fun u hu => by
    have hu' := right_f (right_kid h hu)
    have := hu'.lo; have := hu'.hi
    have hk : u.k = 1 ∨ u.k = 2 ∨ u.k = 3 ∨ u.k = 4 ∨ u.k = 11 ∨ (u.k = 10 ∧ u.nm = (⟨#[114, 101, 97, 100]⟩ : ByteArray)) ∨ ¬ (u.k = 1 ∨ u.k = 2 ∨ u.k = 3 ∨ u.k = 4 ∨ u.k = 11 ∨ (u.k = 10 ∧ u.nm = (⟨#[114, 101, 97, 100]⟩ : ByteArray))) := by
      by_cases hh : u.k = 1 ∨ u.k = 2 ∨ u.k = 3 ∨ u.k = 4 ∨ u.k = 11 ∨ (u.k = 10 ∧ u.nm = (⟨#[114, 101, 97, 100]⟩ : ByteArray))
      · rcases hh with e | e | e | e | e | e <;> simp [e]
      · exact .inr (.inr (.inr (.inr (.inr (.inr hh)))))
    rcases hk with e | e | e | e | e | e | e
    · rw [atomW_1 e]; simp
    · rw [atomW_2 e]; simp
    · rw [atomW_3 e]; simp
    · rw [atomW_4 e]; simp
    · rw [atomW_11 e]; simp
    · rw [atomW_read e.1 e.2]; simp
    · simp only [not_or] at e
      rw [atomW_other e.1 e.2.1 e.2.2.1 e.2.2.2.1 e.2.2.2.2.2 e.2.2.2.2.1]; simp
  by_cases k10 : t.k = 10
  · have hk := hr.k10 k10
    rcases kidsOf_cases t.nm with e | e | e | e
    · have hl : t.kids.length = 2 := by omega
      have hn : t.nm ≠ (⟨#[114, 101, 97, 100]⟩ : ByteArray) := fun he => by rw [he, kids_read] at e; omega
      rw [exprW_op2 k10 hn hl]; simp
    · have hl : t.kids.length = 1 := by omega
      have hn : t.nm ≠ (⟨#[114, 101, 97, 100]⟩ : ByteArray) := fun he => by rw [he, kids_read] at e; omega
      rw [exprW_op1 k10 hn hl]; simp
    · have hn := kids_zero e
      rw [exprW_read k10 hn (by omega) (by omega), atomW_read k10 hn]; simp
    · omega
  · have hs : t.k = 1 ∨ t.k = 2 ∨ t.k = 3 ∨ t.k = 4 ∨ t.k = 5 ∨ t.k = 6 ∨ t.k = 7 ∨ t.k = 8 ∨ t.k = 9 ∨ t.k = 11 ∨ t.k = 12 ∨ t.k = 13 ∨ t.k = 14 := by omega
    rcases hs with e | e | e | e | e | e | e | e | e | e | e | e | e
    · rw [exprW_1 e, atomW_1 e]; simp
    · rw [exprW_2 e, atomW_2 e]; simp
    · rw [exprW_3 e, atomW_3 e]; simp
    · rw [exprW_4 e, atomW_4 e]; simp
    · rw [exprW_5 e]; simp
    · have hl := hr.k6 e
      obtain ⟨u, hu⟩ := some_of_lt (l := t.kids) (i := 1) (by omega)
      rw [exprW_6 e, aK_at hu]
      intro hc
      exact hA u (List.mem_of_getElem? hu) (List.append_eq_nil_iff.1 hc).2
    · rw [exprW_7 e]; simp
    · rw [exprW_8 e]; simp
    · rw [exprW_9 e]; simp [ptN]
    · rw [exprW_11 e, atomW_11 e]; simp
    · rw [exprW_12 e]; simp [ptN]
    · rw [exprW_13 e]; simp
    · rw [exprW_14 e]; simp
theorem few_len {ws : List ByteArray} (h : FewW ws) : (joinL ws).length ≤ 140737488355328 := Nat.le_trans (join_len ws 4194306 h.2) (Nat.le_trans (Nat.mul_le_mul_right _ h.1) (by decide))
theorem print_len {p : Pr} (h : RightB p = true) (hf : FewW (printW p)) : (printL p).length ≤ 140737488355328 := by unfold printL; rw [if_pos h]; exact few_len hf
/-- What stands ahead of the body. -/
def headL (p : Pr) : List UInt8 := if declW p = [] then [] else joinL (declW p) ++ [32]
theorem decl_nil (p : Pr) : declW p = [] ↔ p.effs.length + p.dats.length = 0 := by
  unfold declW
  rw [List.append_eq_nil_iff]
  constructor
  · rintro ⟨h1, h2⟩
    have e1 : p.effs = [] := by
      cases he : p.effs with
      | nil => rfl
      | cons a r => rw [he, List.flatMap_cons] at h1; have := (List.append_eq_nil_iff.1 h1).1; simp [effW'] at this
    have e2 : p.dats = [] := by
      cases he : p.dats with
      | nil => rfl
      | cons a r => rw [he, List.flatMap_cons] at h2; have := (List.append_eq_nil_iff.1 h2).1; simp [datW'] at this
    rw [e1, e2]; rfl
  · intro h
    have e1 : p.effs = [] := List.length_eq_zero_iff.1 (by omega)
    have e2 : p.dats = [] := List.length_eq_zero_iff.1 (by omega)
    rw [e1, e2]; exact ⟨rfl, rfl⟩
theorem print_is {p : Pr} (h : RightB p = true) : printL p = headL p ++ termL p.body := by
  have hb := right_body h
  have hr := written_right hb
  unfold printL termL headL printW
  rw [if_pos h, if_pos hb]
  by_cases hd : declW p = []
  · rw [if_pos hd, hd]; rfl
  · rw [if_neg hd, join_app _ _ hd (exprW_ne hr)]; simp
theorem head_ne {p : Pr} (h : ¬ p.effs.length + p.dats.length = 0) : 0 < (headL p).length := by
  unfold headL
  rw [if_neg (fun e => h ((decl_nil p).1 e))]; simp
theorem head_nil {p : Pr} (h : p.effs.length + p.dats.length = 0) : headL p = [] := by
  unfold headL
  rw [if_pos ((decl_nil p).2 h)]
end Go.Proofs.YtkclecfbjfdfkaaGreatDoor
