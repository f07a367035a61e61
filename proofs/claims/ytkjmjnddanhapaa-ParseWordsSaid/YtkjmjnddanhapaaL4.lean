/-
  The rules of the layer lex, and what Lex computes of a source. Plain definitions and lemmas; no condition beyond those that stand in each statement.
-/
import Derived.Test.YtkjmjnddanhapaaL3
import Derived.Laws.BytesArg
import Derived.Lib.Bytes2
namespace Go.Proofs.Ytkjmjnddanhapaa
open Go.RowKit

/-- The three rules. -/
inductive Rl | d | l | s
def Rl.b : Rl → FuncId | .d => 26 | .l => 28 | .s => 30
def Rl.t : Rl → FuncId | .d => 27 | .l => 29 | .s => 31
def Rl.cs (r : Rl) : Array Value := #[.func (.func r.b) #[] #[], .func (.func r.t) #[] #[]]
structure RlOk (r : Rl) : Prop where
  size : r.cs.size = 2
  one : r.cs.all (·.oneCell') = true
  c0 : r.cs[0]? = some (.func (.func r.b) #[] ([] : List Value).toArray)
  c1 : r.cs[1]? = some (.func (.func r.t) #[] ([] : List Value).toArray)
theorem rl_ok (r : Rl) : RlOk r := ⟨rfl, by simp [Rl.cs, Value.oneCell'], rfl, rfl⟩
theorem mem1 {α : Type} {Q : α → Prop} {a : α} (h : Q a) : ∀ u ∈ [a], Q u := by intro u hu; simp at hu; rw [hu]; exact h
theorem mem3 {α : Type} {Q : α → Prop} {a b c : α} (h1 : Q a) (h2 : Q b) (h3 : Q c) : ∀ u ∈ [a, b, c], Q u := by
  intro u hu; simp at hu; rcases hu with rfl | rfl | rfl <;> assumption
def begB : Rl → UInt8 → Bool
  | .d, u => digB u
  | .l, u => letB u
  | .s, _ => true
/-- What a rule answers: a word, how many bytes it takes, whether it is one. -/
structure WR where
  tok : Tk
  n : Nat
  ok : Bool
def WR.val (r : WR) : Value := .tuple #[.agg r.tok.cs, .int .i64 (r.n : Int), .bool r.ok]
def numR (l : List UInt8) : WR := match numGo 0 (digs l) with
  | none => ⟨⟨0, [], 0, 0⟩, 0, false⟩
  | some v => ⟨⟨1, digs l, v, 0⟩, whileN digB l, true⟩
def nameT (l : List UInt8) : List UInt8 := l.take (whileN nameB l)
def nameR (l : List UInt8) : WR :=
  if 60 < whileN nameB l then ⟨⟨2, nameT l, 0, 0⟩, 0, false⟩
  else if largB (l.getD 0 0) then ⟨⟨3, nameT l, 0, 0⟩, whileN nameB l, true⟩
  else if kwB (nameT l) then ⟨⟨4, nameT l, 0, 0⟩, whileN nameB l, true⟩
  else if whileN nameB l < l.length ∧ (l.getD (whileN nameB l) 0).toNat = 33 then ⟨⟨6, nameT l, 0, 0⟩, whileN nameB l + 1, true⟩
  else ⟨⟨2, nameT l, 0, 0⟩, whileN nameB l, true⟩
def signR (l : List UInt8) : WR := match signsS.find? (preB l) with
  | none => ⟨⟨0, [], 0, 0⟩, 0, false⟩
  | some x => ⟨⟨5, x.data.toList, 0, 0⟩, x.size, true⟩
theorem numV_eq (l : List UInt8) : numV l = (numR l).val := by
  unfold numV numR
  cases numGo 0 (digs l) <;> rfl
theorem nameV_eq (l : List UInt8) : nameV l = (nameR l).val := by
  unfold nameV nameR nameT
  have h1 : (decide (60 < (whileN nameB l : Int)) = true) = (60 < whileN nameB l) := by simp; omega
  have h2 : ((decide ((whileN nameB l : Int) < (l.length : Int)) && decide (((l.getD (whileN nameB l) 0).toNat : Int) = 33)) = true) = (whileN nameB l < l.length ∧ (l.getD (whileN nameB l) 0).toNat = 33) := by
    simp only [Bool.and_eq_true, decide_eq_true_eq]
    apply propext; constructor <;> (intro h; omega)
  simp only [h1, h2]
  repeat' split
  all_goals first | rfl | (unfold WR.val Tk.cs; simp)
theorem signV_eq (l : List UInt8) : signV l = (signR l).val := by
  unfold signV signR
  cases signsS.find? (preB l) with
  | none => rfl
  | some x => show _ = Value.tuple #[.agg #[.int .i64 5, .string (bs x.data.toList), .int .i64 0, .int .i64 0], _, _]; rw [← bs_of x]
def takR : Rl → List UInt8 → WR
  | .d, l => numR l
  | .l, l => nameR l
  | .s, l => signR l
/-- The rule that a byte picks. -/
def ruleOf (u : UInt8) : Rl := if digB u then .d else if letB u then .l else .s
theorem rule_at (u : UInt8) : ∃ j : Nat, idxI (fun r => begB r u) [Rl.d, Rl.l, Rl.s] = (j : Int) ∧ [Rl.d, Rl.l, Rl.s][j]? = some (ruleOf u) := by
  unfold ruleOf idxI
  rw [List.findIdx?_cons, List.findIdx?_cons, List.findIdx?_cons]
  by_cases h1 : digB u = true
  · exact ⟨0, by rw [if_pos (show begB Rl.d u = true from h1)], by rw [if_pos h1]; first | done | rfl⟩
  · have h1' : ¬ begB Rl.d u = true := h1
    by_cases h2 : letB u = true
    · exact ⟨1, by rw [if_neg h1', if_pos (show begB Rl.l u = true from h2)]; rfl, by rw [if_neg h1, if_pos h2]; rfl⟩
    · have h2' : ¬ begB Rl.l u = true := h2
      exact ⟨2, by rw [if_neg h1', if_neg h2', if_pos (show begB Rl.s u = true from rfl)]; rfl, by rw [if_neg h1, if_neg h2]; rfl⟩
/-- The word at the beginning. -/
def wordR (l : List UInt8) : WR := takR (ruleOf (l.getD 0 0)) l
-- ------------------------------------------------------------------ a word takes something, and no more than there is
theorem whileN_pos {p : UInt8 → Bool} {u : UInt8} {l : List UInt8} (h : p u = true) : 0 < whileN p (u :: l) := by
  unfold whileN; rw [List.takeWhile_cons, if_pos h]; simp
theorem word_le {l : List UInt8} (hl : l ≠ []) (hk : (wordR l).ok = true) : 0 < (wordR l).n ∧ (wordR l).n ≤ l.length := by
  obtain ⟨u, r, rfl⟩ := List.exists_cons_of_ne_nil hl
  unfold wordR ruleOf at hk ⊢
  simp only [List.getD_cons_zero] at hk ⊢
  by_cases h1 : digB u = true
  · rw [if_pos h1] at hk ⊢
    simp only [takR] at hk ⊢
    unfold numR at hk ⊢
    cases hn : numGo 0 (digs (u :: r)) with
    | none => rw [hn] at hk; simp at hk
    | some v => exact ⟨whileN_pos h1, whileN_le _ _⟩
  · rw [if_neg h1] at hk ⊢
    by_cases h2 : letB u = true
    · rw [if_pos h2] at hk ⊢
      have hp : 0 < whileN nameB (u :: r) := whileN_pos (by unfold nameB; rw [h2]; rfl)
      have hle := whileN_le nameB (u :: r)
      simp only [takR] at hk ⊢
      unfold nameR at hk ⊢
      split at hk
      · simp at hk
      · rw [if_neg (by assumption)]
        repeat' split
        all_goals (dsimp only; omega)
    · rw [if_neg h2] at hk ⊢
      simp only [takR] at hk ⊢
      unfold signR at hk ⊢
      cases hf : signsS.find? (preB (u :: r)) with
      | none => rw [hf] at hk; simp at hk
      | some x =>
        have hm := List.mem_of_find?_eq_some hf
        have hp : preB (u :: r) x = true := List.find?_some hf
        refine ⟨?_, ?_⟩
        · simp only [signsS, List.mem_cons, List.not_mem_nil, or_false] at hm
          rcases hm with rfl | rfl | rfl | rfl | rfl | rfl | rfl | rfl | rfl | rfl | rfl | rfl | rfl | rfl | rfl | rfl <;> decide
        · have := Lib.hasPrefix_le hp
          have e : x.data.toList.length = x.size := by cases x; simp [ByteArray.size]
          show x.size ≤ (u :: r).length
          rw [← e]; exact this
-- ------------------------------------------------------------------ what does not matter
theorem blank1_le (l : List UInt8) : blank1 l ≤ l.length := by
  unfold blank1
  split
  · cases l with
    | nil => simp
    | cons a r => dsimp only; split; exact whileN_le _ _; simp
  · exact whileN_le _ _
def skip (l : List UInt8) : List UInt8 := if h : blank1 l = 0 then l else skip (l.drop (blank1 l))
termination_by l.length
decreasing_by
  have := blank1_le l
  simp only [List.length_drop]; omega
theorem skip_zero {l : List UInt8} (h : blank1 l = 0) : skip l = l := by rw [skip]; rw [dif_pos h]
theorem skip_more {l : List UInt8} (h : blank1 l ≠ 0) : skip l = skip (l.drop (blank1 l)) := by conv => lhs; rw [skip]; rw [dif_neg h]
theorem skip_le : ∀ (n : Nat) (l : List UInt8), l.length ≤ n → (skip l).length ≤ l.length := by
  intro n
  induction n with
  | zero => intro l hl; have : l = [] := List.length_eq_zero_iff.1 (by omega); subst this; rw [skip_zero rfl]; exact Nat.le_refl _
  | succ n ih =>
    intro l hl
    by_cases h : blank1 l = 0
    · rw [skip_zero h]; exact Nat.le_refl _
    · rw [skip_more h]
      have h2 := blank1_le l
      have := ih (l.drop (blank1 l)) (by simp only [List.length_drop]; omega)
      simp only [List.length_drop] at this; omega
/-- What Lex answers: words, or where it is wrong. -/
inductive LR
  | ok (ts : List Tk)
  | bad (a : Nat)
def LR.pre (out : List Tk) : LR → LR
  | .ok ts => .ok (out ++ ts)
  | .bad a => .bad a
def Tk.put (t : Tk) (a : Nat) : Tk := { t with a := (a : Int) }
/-- The words of l, where l begins a bytes behind the source's beginning. -/
def lexW (a : Nat) (l : List UInt8) : LR :=
  if h : skip l = [] then .ok []
  else if (wordR (skip l)).ok then
    LR.pre [(wordR (skip l)).tok.put (a + (l.length - (skip l).length))] (lexW (a + (l.length - (skip l).length) + (wordR (skip l)).n) ((skip l).drop (max 1 (wordR (skip l)).n)))
  else .bad (a + (l.length - (skip l).length))
termination_by l.length
decreasing_by
  have h1 := skip_le _ l (Nat.le_refl _)
  have h2 : 0 < (skip l).length := List.length_pos_iff.2 h
  simp only [List.length_drop]; omega
theorem lexW_end {a : Nat} {l : List UInt8} (h : skip l = []) : lexW a l = .ok [] := by rw [lexW]; rw [dif_pos h]
theorem lexW_bad {a : Nat} {l : List UInt8} (h : skip l ≠ []) (hk : (wordR (skip l)).ok = false) : lexW a l = .bad (a + (l.length - (skip l).length)) := by
  rw [lexW]; rw [dif_neg h, if_neg (by rw [hk]; decide)]
theorem lexW_word {a : Nat} {l : List UInt8} (h : skip l ≠ []) (hk : (wordR (skip l)).ok = true) : lexW a l = LR.pre [(wordR (skip l)).tok.put (a + (l.length - (skip l).length))] (lexW (a + (l.length - (skip l).length) + (wordR (skip l)).n) ((skip l).drop (wordR (skip l)).n)) := by
  have := (word_le h hk).1
  rw [lexW]; rw [dif_neg h, if_pos hk]
  rw [show max 1 (wordR (skip l)).n = (wordR (skip l)).n by omega]
theorem LR.pre_pre (a b : List Tk) (x : LR) : LR.pre a (LR.pre b x) = LR.pre (a ++ b) x := by cases x <;> simp [LR.pre]
theorem lexW_same {a : Nat} {l : List UInt8} (h : blank1 l ≠ 0) : lexW a l = lexW (a + blank1 l) (l.drop (blank1 l)) := by
  have h1 := blank1_le l
  have h2 := skip_le _ (l.drop (blank1 l)) (Nat.le_refl _)
  rw [← skip_more h] at h2
  simp only [List.length_drop] at h2
  have e : a + blank1 l + ((l.drop (blank1 l)).length - (skip (l.drop (blank1 l))).length) = a + (l.length - (skip l).length) := by
    rw [← skip_more h, List.length_drop]; omega
  by_cases hs : skip l = []
  · rw [lexW_end hs, lexW_end (by rw [← skip_more h]; exact hs)]
  · have hs' : skip (l.drop (blank1 l)) ≠ [] := by rw [← skip_more h]; exact hs
    cases hk : (wordR (skip l)).ok with
    | false =>
      have hk' : (wordR (skip (l.drop (blank1 l)))).ok = false := by rw [← skip_more h]; exact hk
      rw [lexW_bad hs hk, lexW_bad hs' hk', e]
    | true =>
      have hk' : (wordR (skip (l.drop (blank1 l)))).ok = true := by rw [← skip_more h]; exact hk
      rw [lexW_word hs hk, lexW_word hs' hk', e]
      simp only [← skip_more h]
theorem drop_ne {l : List UInt8} {a : Nat} {u : UInt8} (h : l[a]? = some u) : l.drop a ≠ [] := fun e => by
  have := lt_of_some h
  have := congrArg List.length e
  simp only [List.length_drop, List.length_nil] at this; omega
theorem wordR_at {l : List UInt8} {a : Nat} {u : UInt8} (h : l[a]? = some u) : wordR (l.drop a) = takR (ruleOf u) (l.drop a) := by
  unfold wordR
  congr 2
  rw [List.getD_eq_getElem?_getD, List.getElem?_drop, Nat.add_zero, h]; rfl
/-- What Lex returns. -/
def lexT (l : List UInt8) : List Tk := if 1048576 < l.length then [] else match lexW 0 l with | .ok ts => ts | .bad _ => []
def lexA (l : List UInt8) : Nat := if 1048576 < l.length then 0 else match lexW 0 l with | .ok _ => 0 | .bad a => a
def lexE (l : List UInt8) : Int := if 1048576 < l.length then 6 else match lexW 0 l with | .ok _ => 0 | .bad _ => 2
theorem lex_big {l : List UInt8} (h : 1048576 < l.length) : lexT l = [] ∧ lexA l = 0 ∧ lexE l = 6 := by unfold lexT lexA lexE; rw [if_pos h, if_pos h, if_pos h]; exact ⟨rfl, rfl, rfl⟩
theorem lex_ok {l : List UInt8} {ts : List Tk} (h : ¬ 1048576 < l.length) (k : lexW 0 l = .ok ts) : lexT l = ts ∧ lexA l = 0 ∧ lexE l = 0 := by unfold lexT lexA lexE; rw [if_neg h, if_neg h, if_neg h, k]; exact ⟨rfl, rfl, rfl⟩
theorem lex_bad {l : List UInt8} {a : Nat} (h : ¬ 1048576 < l.length) (k : lexW 0 l = .bad a) : lexT l = [] ∧ lexA l = a ∧ lexE l = 2 := by unfold lexT lexA lexE; rw [if_neg h, if_neg h, if_neg h, k]; exact ⟨rfl, rfl, rfl⟩
/-- The state of Lex's loop: what is read so far, and what is left. -/
def LexI (l : List UInt8) (out : List Tk) (a : Nat) : Prop := a ≤ l.length ∧ lexW 0 l = LR.pre out (lexW a (l.drop a)) ∧ out.length ≤ a
theorem LexI.zero (l : List UInt8) : LexI l [] 0 := ⟨Nat.zero_le _, by cases h : lexW 0 l <;> simp [LR.pre, h], Nat.le_refl _⟩
theorem LexI.blank {l : List UInt8} {out : List Tk} {a : Nat} (h : LexI l out a) (hb : 0 < blank1 (l.drop a)) : LexI l out (a + blank1 (l.drop a)) := by
  obtain ⟨h1, h2, h3⟩ := h
  have := blank1_le (l.drop a)
  simp only [List.length_drop] at this
  refine ⟨by omega, ?_, by omega⟩
  rw [h2, lexW_same (by omega), List.drop_drop]
theorem LexI.stop {l : List UInt8} {out : List Tk} {a : Nat} (h : LexI l out a) (hb : ¬ 0 < blank1 (l.drop a)) (he : a = l.length) : lexW 0 l = .ok out := by
  obtain ⟨h1, h2, h3⟩ := h
  have e : l.drop a = [] := List.drop_eq_nil_of_le (by omega)
  rw [h2, e, lexW_end (by rw [skip_zero rfl])]
  simp [LR.pre]
theorem LexI.bad {l : List UInt8} {out : List Tk} {a : Nat} {u : UInt8} (h : LexI l out a) (hb : ¬ 0 < blank1 (l.drop a)) (hu : l[a]? = some u) (hk : (takR (ruleOf u) (l.drop a)).ok = false) : lexW 0 l = .bad a := by
  obtain ⟨h1, h2, h3⟩ := h
  have e : skip (l.drop a) = l.drop a := skip_zero (by omega)
  rw [h2, lexW_bad (by rw [e]; exact drop_ne hu) (by rw [e, wordR_at hu]; exact hk), e]
  simp [LR.pre]
theorem take_le {l : List UInt8} {a : Nat} {u : UInt8} (hu : l[a]? = some u) (hk : (takR (ruleOf u) (l.drop a)).ok = true) : 0 < (takR (ruleOf u) (l.drop a)).n ∧ a + (takR (ruleOf u) (l.drop a)).n ≤ l.length := by
  have := word_le (drop_ne hu) (by rw [wordR_at hu]; exact hk)
  rw [wordR_at hu, List.length_drop] at this
  omega
theorem LexI.word {l : List UInt8} {out : List Tk} {a : Nat} {u : UInt8} (h : LexI l out a) (hb : ¬ 0 < blank1 (l.drop a)) (hu : l[a]? = some u) (hk : (takR (ruleOf u) (l.drop a)).ok = true) : LexI l (out ++ [(takR (ruleOf u) (l.drop a)).tok.put a]) (a + (takR (ruleOf u) (l.drop a)).n) := by
  have hw := take_le hu hk
  obtain ⟨h1, h2, h3⟩ := h
  have e : skip (l.drop a) = l.drop a := skip_zero (by omega)
  refine ⟨hw.2, ?_, by simp only [List.length_append, List.length_cons, List.length_nil]; omega⟩
  rw [h2, lexW_word (by rw [e]; exact drop_ne hu) (by rw [e, wordR_at hu]; exact hk), LR.pre_pre]
  simp only [e, wordR_at hu, Nat.sub_self, Nat.add_zero, List.drop_drop]
-- ------------------------------------------------------------------ a slice's bytes as a string
theorem At.ofBytes {P : Program} {N : Nat} {ds : List Deferred} {L : List (Nat × Value)} {w : World} {ops : Array Oper} {Q : Exit → Act → World → Prop} {rest : List Oper} {d : Nat}
    {ty : TypeId} {pos : String} {aft : Array Edge} {x : Operand} {s t e : TypeId} {l : List UInt8} {v : Value} (hx : ev L x = some v) (hv : BytesAt w v l) (hs : elemB P s = some e) (he : intKB P e = some .u8) (ht : strB P t = true) (hN : Nat.blt d N = true)
    (k : At N ds ((d, .string (bs l)) :: L) (wpList P ops Q rest) w) :
    At N ds L (wpList P ops Q (⟨some d, .convert s t x, ty, pos, aft, none⟩ :: rest)) w :=
  At.op rfl rfl hN (fun a ha => by
    have h : (convert s t v).run P w = .ok (.string (bs l)) w := by
      have hz : strOfNums (l.map fun u => (u.toNat : Int)) = bs l := by
        unfold strOfNums bs
        simp only [List.map_map]
        congr 2
        have : ((fun n : Int => UInt8.ofNat n.toNat) ∘ fun u : UInt8 => (u.toNat : Int)) = id := by funext u; simp
        rw [this, List.map_id]
      rcases BytesAt.ok hv with ⟨rfl, hn⟩ | ⟨⟨b, o, sp⟩, c, rfl, hc, hsp⟩
      · have : l = [] := List.length_eq_zero_iff.1 hn
        subst this
        exact run_convert_bytes_nil (P := P) w s e (underlying_elem hs) (underlying_intK he) 0 0 t (underlying_str ht)
      · by_cases h0 : l = []
        · subst h0
          have hl : (loadCells ⟨b, o, sp⟩ 0).run P w = .ok #[] w := by unfold loadCells; rfl
          rw [run_convert_bytes_string w s t e _ _ c (underlying_elem hs) (underlying_intK he) (underlying_str ht)]
          have := run_bytesToString (P := P) w ⟨b, o, sp⟩ 0 c [] (by simpa using hl)
          exact this
        · have hlt : 0 < l.length := List.length_pos_iff.2 h0
          have hsp' := hsp hlt
          simp at hsp'
          subst hsp'
          have := run_convert_bytes_arg (P := P) w s e (underlying_elem hs) (underlying_intK he) b o l.length c (l.map fun u => (u.toNat : Int)) (by simp) (fun i hi => by
            have := BytesAt.get hv (List.getElem?_eq_getElem hi)
            simp only [vBlock, vOff, Nat.mul_one] at this
            rw [this]; simp [List.getD, hi]) t (underlying_str ht)
          rw [this, hz]
    simp only [execOp, ha.ev hx, Sem.run_bind, h, Result.andThen_ok, Sem.run_pure]) k
end Go.Proofs.Ytkjmjnddanhapaa
