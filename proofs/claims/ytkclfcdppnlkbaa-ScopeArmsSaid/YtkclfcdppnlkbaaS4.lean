/-
  What the laws of the layer scope look at: how many terms there are, how large a program is; the small program that each of them looks at first. Plain definitions and lemmas; no condition.
-/
import Derived.Test.YtkclfcdppnlkbaaS3
namespace Go.Proofs.Ytkclfcdppnlkbaa
open Go.RowKit

mutual
def countS : Tm → Int
  | .mk _ _ _ _ _ _ _ _ kids arms => countA (countL 1 kids) arms
def countL (c : Int) : List Tm → Int
  | [] => c
  | u :: r => countL (IntKind.i64.wrap (c + countS u)) r
def countA (c : Int) : List Am → Int
  | [] => c
  | .mk _ _ _ _ body :: r => countA (IntKind.i64.wrap (c + countS body)) r
end
theorem countS_eq (t : Tm) : countS t = countA (countL 1 t.kids) t.arms := by cases t; rw [countS]; rfl
theorem countL_append : ∀ (l : List Tm) (c : Int) (u : Tm), countL c (l ++ [u]) = IntKind.i64.wrap (countL c l + countS u) := by
  intro l
  induction l with
  | nil => intro c u; rw [List.nil_append, countL, countL, countL]
  | cons a l ih => intro c u; rw [List.cons_append, countL, ih, countL]
theorem countA_append : ∀ (l : List Am) (c : Int) (u : Am), countA c (l ++ [u]) = IntKind.i64.wrap (countA c l + countS u.body) := by
  intro l
  induction l with
  | nil => intro c u; cases u; rw [List.nil_append, countA, countA, countA]; rfl
  | cons a l ih => intro c u; cases a; rw [List.cons_append, countA, ih, countA]
theorem take_succ_snoc {α : Type} {l : List α} {k : Nat} {u : α} (hu : l[k]? = some u) : l.take (k + 1) = l.take k ++ [u] := by
  have hk := lt_of_some hu
  rw [List.take_succ_eq_append_getElem hk, (List.getElem?_eq_some_iff.1 hu).2]
theorem countL_step {c : Int} {l : List Tm} {k : Nat} {u : Tm} (hu : l[k]? = some u) : countL c (l.take (k + 1)) = IntKind.i64.wrap (countL c (l.take k) + countS u) := by rw [take_succ_snoc hu, countL_append]
theorem countA_step {c : Int} {l : List Am} {k : Nat} {u : Am} (hu : l[k]? = some u) : countA c (l.take (k + 1)) = IntKind.i64.wrap (countA c (l.take k) + countS u.body) := by rw [take_succ_snoc hu, countA_append]

def effN (c : Int) (e : Eff) : Int := IntKind.i64.wrap (c + (e.ops.length : Int))
def conN (c : Int) (k : Cn) : Int := IntKind.i64.wrap (IntKind.i64.wrap (c + 1) + (k.fields.length : Int))
def datN (c : Int) (d : Dat) : Int := d.cons.foldl conN c
theorem foldl_step {α : Type} {f : Int → α → Int} {c : Int} {l : List α} {k : Nat} {u : α} (hu : l[k]? = some u) : (l.take (k + 1)).foldl f c = f ((l.take k).foldl f c) u := by
  rw [take_succ_snoc hu, List.foldl_append]; rfl
def largeN (p : Pr) : Int := p.dats.foldl datN (p.effs.foldl effN (IntKind.i64.wrap ((p.effs.length : Int) + (p.dats.length : Int))))
def largeB (p : Pr) : Bool := if decide (100 < largeN p) then true else decide (300 < countS p.body)

-- ------------------------------------------------------------------ what is looked at first
def shownKid (nm : ByteArray) : Tm := .mk #[.int .i64 1, .int .i64 9, .string nm, .string emp, .int .i64 0, .slice none 0 0, .slice none 0 0, .int .i64 0, .string emp, .int .i64 0, .slice none 0 0, .slice none 0 0, .int .i64 0, .slice none 0 0, .int .i64 0, .int .i64 0, .string emp, .int .i64 0, .slice none 0 0, .slice none 0 0, .int .i64 0] 1 9 nm emp 0 (.slice none 0 0) (.slice none 0 0) [] []
def shownFun (b : Nat) (nm : ByteArray) : Tm := .mk #[.int .i64 5, .int .i64 0, .string ⟨#[120]⟩, .string emp, .int .i64 0, .slice (some ⟨b, 0, none⟩) 1 1, .slice none 0 0, .int .i64 0, .string emp, .int .i64 0, .slice none 0 0, .slice none 0 0, .int .i64 0, .slice none 0 0, .int .i64 0, .int .i64 0, .string emp, .int .i64 0, .slice none 0 0, .slice none 0 0, .int .i64 0] 5 0 ⟨#[120]⟩ emp 0 (.slice (some ⟨b, 0, none⟩) 1 1) (.slice none 0 0) [shownKid nm] []
def shownP (b : Nat) (nm : ByteArray) : Pr := { cs := #[.slice none 0 0, .slice none 0 0, .int .i64 5, .int .i64 0, .string ⟨#[120]⟩, .string emp, .int .i64 0, .slice (some ⟨b, 0, none⟩) 1 1, .slice none 0 0, .int .i64 0, .string emp, .int .i64 0, .slice none 0 0, .slice none 0 0, .int .i64 0, .slice none 0 0, .int .i64 0, .int .i64 0, .string emp, .int .i64 0, .slice none 0 0, .slice none 0 0, .int .i64 0], ev := .slice none 0 0, dv := .slice none 0 0, effs := [], dats := [], body := shownFun b nm }
theorem shownKid_ok (w : World) (nm : ByteArray) : TmOk w (shownKid nm) :=
  .mk ⟨rfl, by simp [shownKid, Tm.cs, Value.oneCell'], rfl, rfl, rfl, rfl, rfl, rfl, rfl, RowsAt.nil w 21, RowsAt.nil w 23⟩ (fun _ h => by cases h) (fun _ h => by cases h)
theorem shownFun_ok {w : World} {b : Nat} {nm : ByteArray} {T : TypeId} {fr : Nat × Nat} (h : w.heap[b]? = some (.cells (shownKid nm).cs T fr)) : TmOk w (shownFun b nm) := by
  refine .mk ⟨rfl, by simp [shownFun, Tm.cs, Value.oneCell'], rfl, rfl, rfl, rfl, rfl, rfl, rfl, RowsAt.own (rows := [(shownKid nm).cs]) (by simpa using h) (by intro r hr; simp at hr; rw [hr]; rfl) rfl (Nat.le_refl _), RowsAt.nil w 23⟩ (fun u hu => ?_) (fun _ h => by cases h)
  have : u = shownKid nm := by simpa [shownFun, Tm.kids] using hu
  rw [this]; exact shownKid_ok w nm
theorem shownP_ok {w : World} {b : Nat} {nm : ByteArray} {T : TypeId} {fr : Nat × Nat} (h : w.heap[b]? = some (.cells (shownKid nm).cs T fr)) : PrOk w (shownP b nm) :=
  ⟨rfl, by simp [shownP, Value.oneCell'], rfl, rfl, RowsAt.nil w 2, RowsAt.nil w 2, (fun _ h => by cases h), (fun _ h => by cases h), by simp [shownP, shownFun, Tm.cs], shownFun_ok h⟩
theorem shownP_sz (b : Nat) (nm : ByteArray) : PrSz (shownP b nm) := ⟨by simp [shownP], by simp [shownP], (fun _ h => by cases h), (fun _ h => by cases h), (fun _ h => by cases h), by simp [shownP], by simp [shownP]⟩
theorem shownP_wt (b : Nat) (nm : ByteArray) : wtT (shownP b nm).body ≤ 4398046511104 := by simp [shownP, shownFun, shownKid, wtT, wtL, wtA]
theorem shown_y (b : Nat) : checkP (shownP b ⟨#[121]⟩) = (9, 4) := by
  simp [checkP, shownP, effsB, datsB, termS_eq, oneB, shownFun, shownKid, Tm.k, Tm.kids, Tm.arms, Tm.nm, Tm.pm, Tm.at_, kidsS, armsS, orO, insideB, memB, atE, erE]
theorem shown_x (b : Nat) : checkP (shownP b ⟨#[120]⟩) = (0, 0) := by
  simp [checkP, shownP, effsB, datsB, termS_eq, oneB, shownFun, shownKid, Tm.k, Tm.kids, Tm.arms, Tm.nm, Tm.pm, Tm.at_, kidsS, armsS, orO, insideB, memB, atE, erE]
theorem PrOk.hl {w : World} {p : Pr} (h : PrOk w p) : p.effs.length ≤ 9223372036854775807 ∧ p.dats.length ≤ 9223372036854775807 := ⟨h.effsAt.lenL, h.datsAt.lenL⟩
theorem PrOk.ho {w : World} {p : Pr} (h : PrOk w p) : ∀ e ∈ p.effs, e.ops.length ≤ 9223372036854775807 := fun e he => (h.effOk e he).opsAt.lenL
theorem PrOk.hc {w : World} {p : Pr} (h : PrOk w p) : ∀ d ∈ p.dats, d.cons.length ≤ 9223372036854775807 := fun e he => (h.datOk e he).consAt.lenL
end Go.Proofs.Ytkclfcdppnlkbaa
