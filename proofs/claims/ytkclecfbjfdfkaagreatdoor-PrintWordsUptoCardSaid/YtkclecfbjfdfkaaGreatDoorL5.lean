/-
  Words that are the same, and the text of words. Plain definitions and lemmas; no condition beyond those that stand in each statement.
-/
import Derived.Test.YtkclecfbjfdfkaaGreatDoorL4
import Derived.Test.YtkclecfbjfdfkaaGreatDoorChecked
import Derived.Laws.StructEq
import Derived.Test.YtkclecfbjfdfkaaGreatDoorShelf
namespace Go.Proofs.YtkclecfbjfdfkaaGreatDoor
open Go.RowKit
instance : DecidableEq Tk := fun a b => decidable_of_iff (a.k = b.k ∧ a.t = b.t ∧ a.n = b.n ∧ a.a = b.a) (by cases a; cases b; simp)
theorem eq31 (a b : Tk) (w : World) : (Op.equalIn 10000 101 (.agg a.cs) (.agg b.cs)).run Tryz.prog w = .ok (decide (a = b)) w := by
  have u3 := Tryz.underlying3
  have a3 := Tryz.isAgg3
  have z3 := Tryz.sizeOf3
  have u9 := Tryz.underlying9
  have a9 := Tryz.isAgg9
  have z9 := Tryz.sizeOf9
  have hS : Tryz.prog.underlying 101 = some (.struct (Tryz.prog.fieldsOf 101)) := by kernel_rfl
  have hp : Tryz.prog.stoodInHeld 101 = false := by kernel_rfl
  rw [show (10000 : Nat) = 9999 + 1 from rfl]
  unfold Tk.cs tokCs
  rw [run_equalIn_agg w 9999 101 _ _ hS hp]
  simp only [Program.fieldsOf, Tryz.underlying101]
  go_simp
  have e : ∀ x y : List UInt8, ((bs x).toList = (bs y).toList) = (x = y) := fun x y => by
    have h1 := toList_beq (bs x) (bs y)
    have h2 : ((bs x).toList == (bs y).toList) = decide (x = y) := by rw [h1, decide_eq_decide.2 bs_inj]
    by_cases h : x = y
    · rw [h]; simp
    · rw [decide_eq_false h, beq_eq_false_iff_ne] at h2
      simp [h, h2]
  obtain ⟨a1, a2, a3', a4⟩ := a
  obtain ⟨b1, b2, b3', b4⟩ := b
  by_cases h1 : a1 = b1 <;> by_cases h2 : a2 = b2 <;> by_cases h3 : a3' = b3' <;> by_cases h4 : a4 = b4 <;> simp [h1, h2, h3, h4, e]
theorem At.neTk {N : Nat} {ds : List Deferred} {L : List (Nat × Value)} {w : World} {ops : Array Oper} {Q : Exit → Act → World → Prop} {rest : List Oper} {d : Nat}
    {ty : TypeId} {pos : String} {aft : Array Edge} {x y : Operand} {a b : Tk} {u' : TypeId} (hx : ev L x = some (.agg a.cs)) (hy : ev L y = some (.agg b.cs)) (hN : Nat.blt d N = true)
    (k : At N ds ((d, .bool (!decide (a = b))) :: L) (wpList Tryz.prog ops Q rest) w) :
    At N ds L (wpList Tryz.prog ops Q (⟨some d, .binOp .neq 101 x y u', ty, pos, aft, none⟩ :: rest)) w :=
  At.op rfl rfl hN (fun c hc => by
    have hg := run_eqGuard_agg (P := Tryz.prog) w .neq 101 x y a.cs b.cs (by kernel_rfl)
    have hn := run_neq_struct (P := Tryz.prog) w 101 a.cs b.cs
    rw [eq31] at hn
    simp only [execOp, hc.ev hx, hc.ev hy, Sem.run_bind, hg, hn, Result.andThen_ok, Sem.run_pure]) k
def Tk.putI (t : Tk) (a : Int) : Tk := { t with a := a }
/-- Are these the same words (where they begin counts, or not)? -/
def sameB (c : Bool) : List Tk → List Tk → Bool
  | [], [] => true
  | x :: a, y :: b => decide ((if c then x else x.putI y.a) = y) && sameB c a b
  | _, _ => false
theorem sameB_len {c : Bool} : ∀ {a b : List Tk}, a.length ≠ b.length → sameB c a b = false
  | [], [], h => absurd rfl h
  | [], _ :: _, _ => rfl
  | _ :: _, [], _ => rfl
  | x :: a, y :: b, h => by rw [sameB, sameB_len (a := a) (b := b) (by simpa using h), Bool.and_false]
theorem sameB_step {c : Bool} {a b : List Tk} {k : Nat} {x y : Tk} (hx : a[k]? = some x) (hy : b[k]? = some y) : sameB c (a.drop k) (b.drop k) = (decide ((if c then x else x.putI y.a) = y) && sameB c (a.drop (k + 1)) (b.drop (k + 1))) := by
  have h1 := lt_of_some hx
  have h2 := lt_of_some hy
  rw [List.drop_eq_getElem_cons h1, List.drop_eq_getElem_cons h2, (List.getElem?_eq_some_iff.1 hx).2, (List.getElem?_eq_some_iff.1 hy).2, sameB]
theorem sameB_end {c : Bool} {a b : List Tk} {k : Nat} (ha : a.length ≤ k) (hb : b.length ≤ k) : sameB c (a.drop k) (b.drop k) = true := by
  rw [List.drop_eq_nil_of_le ha, List.drop_eq_nil_of_le hb]; rfl
theorem sameB_true {a b : List Tk} : sameB true a b = true ↔ a = b := by
  induction a generalizing b with
  | nil => cases b <;> simp [sameB]
  | cons x a ih => cases b <;> simp [sameB, ih]
theorem take_one {α : Type} {l : List α} {k : Nat} {u : α} (hu : l[k]? = some u) : l.take (k + 1) = l.take k ++ [u] := by rw [List.take_add_one, hu]; rfl
/-- A word as it is written. -/
def textW (t : Tk) : List UInt8 := if t.k = 6 then t.t ++ [33] else t.t
/-- The text of words. -/
def textL (l : List Tk) : List UInt8 := Lib.join (l.map textW) [32]
theorem join_any (v : Value) (ls : List (List UInt8)) (w : World) (h : StrsAt w v (ls.map bs)) (hN : ls.length ≤ 140737488355328) (hlen : (Lib.join ls [32]).length ≤ 140737488355328) :
    Calls Tryz.prog 26 ([v, .string (⟨#[32]⟩ : ByteArray)] : List Value).toArray w fun e w' => e = .returned (.string (bs (Lib.join ls [32]))) ∧ Below w.heap.size w w' := by
  have hnil : ∀ (a : Option Addr) (c : Nat), ls = [] → Calls Tryz.prog 26 ([.slice a 0 c, .string (⟨#[32]⟩ : ByteArray)] : List Value).toArray w fun e w' => e = .returned (.string (bs (Lib.join ls [32]))) ∧ Below w.heap.size w w' := fun a c e => by
    subst e
    exact (Tryz.strings_Join_none a c ⟨#[32]⟩ w).mono fun e w' q => ⟨q.1, by rw [q.2]; exact Below.refl _ _⟩
  rcases StrsAt.ok h with ⟨rfl, hn⟩ | ⟨⟨b, o, sp⟩, c, rfl, hc, hsp⟩
  · exact hnil none 0 (by simpa using hn)
  · by_cases h0 : ls = []
    · have : (ls.map bs).length = 0 := by rw [h0]; rfl
      rw [this]; exact hnil _ _ h0
    · have hlt : 0 < (ls.map bs).length := by simpa using List.length_pos_iff.2 h0
      have hs := hsp hlt
      simp at hs
      subst hs
      have hm : (ls.map bs).map (·.data.toList) = ls := by rw [List.map_map]; conv => rhs; rw [← List.map_id ls]
                                                           exact List.map_congr_left fun x _ => bs_list x
      have := Tryz.strings_Join b o c (ls.map bs) ⟨#[32]⟩ w (fun j x hx => by have := StrsAt.get h hx; simpa [vBlock, vOff] using this) (StrsAt.lt h (by simpa using h0)) (by simpa using hN) hc (by rw [hm]; exact hlen)
      rw [hm] at this
      exact this
end Go.Proofs.YtkclecfbjfdfkaaGreatDoor
