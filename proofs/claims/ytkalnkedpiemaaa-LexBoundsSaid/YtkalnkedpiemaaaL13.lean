/-
  A byte that begins no word; words behind words. Plain lemmas; no condition beyond those that stand in each statement.
-/
import Derived.Test.YtkalnkedpiemaaaL12
import Derived.Test.YtkalnkedpiemaaaK12
import Derived.Test.YtkalnkedpiemaaaK13
namespace Go.Proofs.Ytkalnkedpiemaaa
open Go.RowKit

theorem strOf_bs (l : List UInt8) : strOfNums (l.map fun u => (u.toNat : Int)) = bs l := by
  unfold strOfNums bs
  simp only [List.map_map]
  congr 2
  have : ((fun n : Int => UInt8.ofNat n.toNat) ∘ fun u : UInt8 => (u.toNat : Int)) = id := by funext u; simp
  rw [this, List.map_id]
/-- A byte that begins no word. -/
def badB (c : UInt8) : Bool := (((((((((((((((((((((decide (128 ≤ (c.toNat : Int)) || decide ((c.toNat : Int) = 36)) || decide ((c.toNat : Int) = 34)) || decide ((c.toNat : Int) = 37)) || decide ((c.toNat : Int) = 38)) || decide ((c.toNat : Int) = 39)) || decide ((c.toNat : Int) = 46)) || decide ((c.toNat : Int) = 62)) || decide ((c.toNat : Int) = 63)) || decide ((c.toNat : Int) = 64)) || decide ((c.toNat : Int) = 91)) || decide ((c.toNat : Int) = 92)) || decide ((c.toNat : Int) = 93)) || decide ((c.toNat : Int) = 94)) || decide ((c.toNat : Int) = 96)) || decide ((c.toNat : Int) = 124)) || decide ((c.toNat : Int) = 126)) || decide ((c.toNat : Int) < 9)) || decide ((c.toNat : Int) = 11)) || decide ((c.toNat : Int) = 12)) || (decide (13 < (c.toNat : Int)) && decide ((c.toNat : Int) < 32))) || decide ((c.toNat : Int) = 127))
def badC (c : UInt8) : Bool := !badB c || (!blkB c && c != 35 && !digB c && !letB c && signsS.all fun y => y.data.toList.head? != some c)
theorem bad_all : ∀ n : Fin 256, badC (UInt8.ofNat n.val) = true := by decide +kernel
theorem bad_is {c : UInt8} (h : badB c = true) : (blkB c = false ∧ c ≠ 35) ∧ digB c = false ∧ letB c = false ∧ ∀ y ∈ signsS, y.data.toList.head? ≠ some c := by
  have := bad_all ⟨c.toNat, c.toNat_lt⟩
  rw [show UInt8.ofNat (⟨c.toNat, c.toNat_lt⟩ : Fin 256).val = c from UInt8.ofNat_toNat] at this
  unfold badC at this
  rw [h] at this
  simp only [Bool.not_true, Bool.false_or, Bool.and_eq_true, Bool.not_eq_true', bne_iff_ne, List.all_eq_true] at this
  obtain ⟨⟨⟨⟨h1, h2⟩, h3⟩, h4⟩, h5⟩ := this
  exact ⟨⟨h1, h2⟩, h3, h4, h5⟩
theorem bad_word {c : UInt8} (h : badB c = true) (r : List UInt8) : (wordR (c :: r)).ok = false := by
  obtain ⟨_, h1, h2, h3⟩ := bad_is h
  have hr : ruleOf c = .s := by unfold ruleOf; rw [if_neg (by rw [h1]; decide), if_neg (by rw [h2]; decide)]
  have : wordR (c :: r) = signR (c :: r) := by unfold wordR; rw [List.getD_cons_zero, hr]; rfl
  rw [this]
  unfold signR
  have hn : signsS.find? (preB (c :: r)) = none := by
    rw [List.find?_eq_none]
    intro y hy hp
    have h4 := h3 y hy
    unfold preB Lib.hasPrefix at hp
    rcases sign_len hy with ⟨a, e⟩ | ⟨a, b, e, _⟩
    · rw [e] at h4 hp
      simp [List.isPrefixOf] at hp h4
      exact h4 hp
    · rw [e] at h4 hp
      simp only [List.head?_cons] at h4
      rw [List.isPrefixOf] at hp
      simp only [Bool.and_eq_true, beq_iff_eq] at hp
      exact h4 (congrArg some hp.1)
  rw [hn]
theorem lex_first {l : List UInt8} {ts : List Tk} {c : UInt8} (hl : lexW 0 l = .ok ts) (hb : badB c = true) (r : List UInt8) : lexW 0 (((l ++ ([10] : List UInt8)) ++ [c]) ++ r) = .bad (l.length + 1) := by
  have e : ((l ++ ([10] : List UInt8)) ++ [c]) ++ r = l ++ 10 :: (c :: r) := by simp
  have hs : skip (c :: r) = c :: r := skip_stop (bad_is hb).1
  rw [e, lexW_nl _ l (Nat.le_refl _), hl, lexW_bad (by rw [hs]; simp) (by rw [hs]; exact bad_word hb r), hs, Nat.sub_self]
  show LR.bad _ = _
  congr 1
  omega
-- ------------------------------------------------------------------ words behind words
structure Joins (a b all : List UInt8) : Prop where
  one : lexE a ≠ 0 → lexE all = 2 ∧ lexA all = lexA a ∧ lexT all = []
  two : lexE a = 0 → lexE b ≠ 0 → lexE all = 2 ∧ lexA all = a.length + 1 + lexA b ∧ lexT all = []
  both : lexE a = 0 → lexE b = 0 → lexE all = 0 ∧ lexT all = lexT a ++ (lexT b).map (Tk.add (a.length + 1))
theorem joins {a b : List UInt8} (ha : a.length ≤ 1000) (hb : b.length ≤ 1000) : Joins a b ((a ++ [(10 : UInt8)]) ++ b) := by
  have hl : ¬ 1048576 < ((a ++ [(10 : UInt8)]) ++ b).length := by simp only [List.length_append, List.length_cons, List.length_nil]; omega
  have h1 : lexW 0 ((a ++ [(10 : UInt8)]) ++ b) = LR.andThen (lexW 0 a) (LR.add (a.length + 1) (lexW 0 b)) := by
    have e : (a ++ [(10 : UInt8)]) ++ b = a ++ 10 :: b := by simp
    rw [e, lexW_nl _ a (Nat.le_refl _), ← lexW_add (a.length + 1) _ b (Nat.le_refl _) 0]
    congr 2
  refine ⟨fun h => ?_, fun h h2 => ?_, fun h h2 => ?_⟩
  · obtain ⟨q, _⟩ := lex_wrong h (by omega)
    rw [q] at h1
    obtain ⟨x, y, z⟩ := lex_bad hl (h1.trans rfl)
    exact ⟨z, y, x⟩
  · obtain ⟨q, _⟩ := lex_zero h
    obtain ⟨q2, _⟩ := lex_wrong h2 (by omega)
    rw [q, q2] at h1
    obtain ⟨x, y, z⟩ := lex_bad hl (h1.trans rfl)
    exact ⟨z, by rw [y]; omega, x⟩
  · obtain ⟨q, _⟩ := lex_zero h
    obtain ⟨q2, _⟩ := lex_zero h2
    rw [q, q2] at h1
    obtain ⟨x, y, z⟩ := lex_ok hl (h1.trans rfl)
    exact ⟨z, x⟩
/-- The first k words further on. -/
def addTo (d k : Nat) (ts : List Tk) : List Tk := (ts.take k).map (Tk.add d) ++ ts.drop k
theorem addTo_zero (d : Nat) (ts : List Tk) : addTo d 0 ts = ts := rfl
theorem addTo_len (d k : Nat) (ts : List Tk) : (addTo d k ts).length = ts.length := by simp only [addTo, List.length_append, List.length_map, List.length_take, List.length_drop]; omega
theorem addTo_full {d k : Nat} {ts : List Tk} (h : ts.length ≤ k) : addTo d k ts = ts.map (Tk.add d) := by unfold addTo; rw [List.take_of_length_le h, List.drop_eq_nil_of_le h, List.append_nil]
theorem addTo_at {d k : Nat} {ts : List Tk} {x : Tk} (h : ts[k]? = some x) : (addTo d k ts)[k]? = some x := by
  have hk := lt_of_some h
  unfold addTo
  rw [List.getElem?_append_right (by simp only [List.length_map, List.length_take]; omega)]
  simp only [List.length_map, List.length_take, List.getElem?_drop]
  rw [show k + (k - min k ts.length) = k by omega]; exact h
theorem addTo_set {d k : Nat} {ts : List Tk} {x y : Tk} (h : ts[k]? = some x) (hy : y = Tk.add d x) : (addTo d k ts).set k y = addTo d (k + 1) ts := by
  have hk := lt_of_some h
  have hl : ((ts.take k).map (Tk.add d)).length = k := by simp only [List.length_map, List.length_take]; omega
  unfold addTo
  rw [List.set_append_right _ _ (by omega), hl, Nat.sub_self, List.drop_eq_getElem_cons hk, (List.getElem?_eq_some_iff.1 h).2, List.set_cons_zero, take_one h, List.map_append, List.append_assoc, hy]
  rfl
theorem putI_add (x : Tk) (n : Nat) : Tk.putI x (x.a + (n : Int) + 1) = Tk.add (n + 1) x := by unfold Tk.putI Tk.add; simp [Int.add_assoc]
theorem putI_splice (t : Tk) (a : Int) : (Tk.putI t a).cs = splice t.cs 3 #[.int .i64 a] := rfl
-- ------------------------------------------------------------------ rows of bytes of the call's own
def U8.cs (u : UInt8) : Array Value := #[.int .u8 (u.toNat : Int)]
structure U8Ok (u : UInt8) : Prop where
  size : (U8.cs u).size = 1
  one : (U8.cs u).all (·.oneCell') = true
theorem u8_ok (u : UInt8) : U8Ok u := ⟨rfl, by simp [U8.cs, Value.oneCell']⟩
end Go.Proofs.Ytkalnkedpiemaaa
