/-
  Bytes that a program writes out; what Lex computes of sources that are given. Plain definitions and lemmas; no condition beyond those that stand in each statement.
-/
import Derived.Test.YtkclecfbjfdfkaaGreatDoorL5
namespace Go.Proofs.YtkclecfbjfdfkaaGreatDoor
open Go.RowKit

theorem BytesAt.own {w : World} {b n : Nat} {l : List UInt8} {T : TypeId} {fr : Nat × Nat} (h : w.heap[b]? = some (.cells (l.map fun u => Value.int .u8 (u.toNat : Int)).toArray T fr)) (hn : n = l.length) (hl : n ≤ 9223372036854775807) : BytesAt w (.slice (some ⟨b, 0, none⟩) n n) l := by
  refine RowsAt.own (rows := l.map fun u => #[Value.int .u8 (u.toNat : Int)]) (sz := 1) (T := T) (fr := fr) ?_ (by intro r hr; obtain ⟨u, _, rfl⟩ := List.mem_map.1 hr; rfl) (by simpa using hn) (Nat.le_refl _) hl
  rw [h]
  congr 3
  clear h hn
  induction l with
  | nil => rfl
  | cons a r ih => rw [List.map_cons, List.map_cons, List.flatMap_cons, ← ih]; rfl
theorem At.markB {P : Program} {N : Nat} {ds : List Deferred} {L : List (Nat × Value)} {w : World} {ops : Array Oper} {Q : Exit → Act → World → Prop} {rest : List Oper} {d : Nat}
    {ty : TypeId} {pos : String} {aft : Array Edge} {x : Operand} {t e T : TypeId} {l : List UInt8} {b n : Nat} (hx : ev L x = some (.slice (some ⟨b, 0, none⟩) n n)) (hb : w.heap[b]? = some (.cells (l.map fun u => Value.int .u8 (u.toNat : Int)).toArray T)) (hn : n = l.length) (hl : n ≤ 9223372036854775807)
    (ht : elemB P t = some e) (he : intKB P e = some .u8) (hN : Nat.blt d N = true)
    (k : ∀ w', SetB w w' b (.cells (l.map fun u => Value.int .u8 (u.toNat : Int)).toArray T (l.length, l.length + 1)) → BytesAt w' (.slice (some ⟨b, 0, none⟩) n n) l → At N ds ((d, .slice (some ⟨b, 0, none⟩) n n) :: L) (wpList P ops Q rest) w') :
    At N ds L (wpList P ops Q (⟨some d, .convert t t x, ty, pos, aft, none⟩ :: rest)) w := by
  have hlt : b < w.heap.size := (Array.getElem?_eq_some_iff.1 hb).1
  have hsh : w.shape? b = some (T, l.length) := by unfold World.shape?; rw [hb]; simp
  have hnew : (w.freeze ⟨b, l.length, none⟩ 1).heap[b]? = some (.cells (l.map fun u => Value.int .u8 (u.toNat : Int)).toArray T (l.length, l.length + 1)) := by
    unfold World.freeze
    rw [if_neg (by decide)]
    show (w.heap.modify b _)[b]? = _
    rw [Array.getElem?_modify, if_pos rfl, hb]
    rfl
  have hset : SetB w (w.freeze ⟨b, l.length, none⟩ 1) b (.cells (l.map fun u => Value.int .u8 (u.toNat : Int)).toArray T (l.length, l.length + 1)) := by
    have hs : (w.freeze ⟨b, l.length, none⟩ 1).heap.size = w.heap.size := by
      unfold World.freeze
      rw [if_neg (by decide)]
      show (w.heap.modify b _).size = _
      rw [Array.size_modify]
    refine ⟨hnew, hs, ⟨?_, ?_, ?_, Nat.le_of_eq hs.symm, fun j hj hne => ?_⟩⟩
    · unfold World.freeze; rw [if_neg (by decide)]
    · unfold World.freeze; rw [if_neg (by decide)]
    · unfold World.freeze; rw [if_neg (by decide)]
    · unfold World.freeze
      rw [if_neg (by decide)]
      show (w.heap.modify b _)[j]? = _
      rw [Array.getElem?_modify, if_neg (by intro e; apply hne; rw [e])]
  refine At.op rfl rfl hN (fun a ha => ?_) (k _ hset (BytesAt.own hnew hn hl))
  have h : (convert t t (.slice (some ⟨b, 0, none⟩) n n)).run P w = .ok (.slice (some ⟨b, 0, none⟩) n n) (w.freeze ⟨b, l.length, none⟩ 1) := by
    simp [convert, run_underlying (underlying_elem ht), run_underlying (underlying_intK he), markStringish, hsh]
  simp only [execOp, ha.ev hx, Sem.run_bind, h, Result.andThen_ok, Sem.run_pure]
-- ------------------------------------------------------------------ Lex, so that it can be computed
def skipF : Nat → List UInt8 → List UInt8
  | 0, l => l
  | f + 1, l => if blank1 l = 0 then l else skipF f (l.drop (blank1 l))
theorem skipF_eq : ∀ (f : Nat) (l : List UInt8), l.length ≤ f → skipF f l = skip l := by
  intro f
  induction f with
  | zero => intro l hl; have : l = [] := List.length_eq_zero_iff.1 (by omega); subst this; rw [skip_zero rfl]; rfl
  | succ f ih =>
    intro l hl
    by_cases h : blank1 l = 0
    · rw [skip_zero h, skipF, if_pos h]
    · have := blank1_le l
      rw [skip_more h, skipF, if_neg h, ih _ (by simp only [List.length_drop]; omega)]
def lexF : Nat → Nat → List UInt8 → LR
  | 0, _, _ => .ok []
  | f + 1, a, l => match skipF l.length l with
    | [] => .ok []
    | u :: r => if (wordR (u :: r)).ok then LR.pre [(wordR (u :: r)).tok.put (a + (l.length - (u :: r).length))] (lexF f (a + (l.length - (u :: r).length) + (wordR (u :: r)).n) ((u :: r).drop (wordR (u :: r)).n)) else .bad (a + (l.length - (u :: r).length))
theorem lexF_eq : ∀ (f a : Nat) (l : List UInt8), l.length < f → lexF f a l = lexW a l := by
  intro f
  induction f with
  | zero => intro a l h; omega
  | succ f ih =>
    intro a l h
    unfold lexF
    rw [skipF_eq _ _ (Nat.le_refl _)]
    have hle := skip_le _ l (Nat.le_refl _)
    cases hs : skip l with
    | nil => rw [lexW_end hs]
    | cons u r =>
      have hne : skip l ≠ [] := by rw [hs]; simp
      have hlen : (skip l).length = r.length + 1 := by rw [hs]; rfl
      cases hk : (wordR (skip l)).ok with
      | false => rw [lexW_bad hne hk, hs] ; rw [hs] at hk; simp [hk]
      | true =>
        have hp := (word_le hne hk).1
        rw [lexW_word hne hk, ← ih _ _ (by simp only [List.length_drop]; omega), hs]
        rw [hs] at hk; simp [hk]
/-- A source is words: whether, which, or where it is not. -/
theorem lex_is {l : List UInt8} {x : LR} (h : lexF (l.length + 1) 0 l = x) : lexW 0 l = x := by rw [← h, lexF_eq _ _ _ (by omega)]
-- ------------------------------------------------------------------ the sources that every statement begins with
def g1 : List UInt8 := [103,101,116,33,120,45,62,121,32,35,32,110,111,116,101,10,32,102,32,33,120,32,49,50]
def g1T : List Tk := [⟨6, [103, 101, 116], 0, 0⟩, ⟨2, [120], 0, 4⟩, ⟨5, [45, 62], 0, 5⟩, ⟨2, [121], 0, 7⟩, ⟨2, [102], 0, 17⟩, ⟨5, [33], 0, 19⟩, ⟨2, [120], 0, 20⟩, ⟨1, [49, 50], 12, 22⟩]
def g1K (i : Nat) : Tk := g1T.getD i ⟨0, [], 0, 0⟩
theorem g1_lex : lexW 0 g1 = .ok g1T := lex_is (by kernel_rfl)
theorem g2_lex : lexW 0 [97, 32, 36] = .bad 2 := lex_is (by kernel_rfl)
theorem g3_lex : lexW 0 [57,50,50,51,51,55,50,48,51,54,56,53,52,55,55,53,56,48,56] = .bad 0 := lex_is (by kernel_rfl)
theorem g1_text : textL g1T = [103,101,116,33,32,120,32,45,62,32,121,32,102,32,33,32,120,32,49,50] := by kernel_rfl
end Go.Proofs.YtkclecfbjfdfkaaGreatDoor
