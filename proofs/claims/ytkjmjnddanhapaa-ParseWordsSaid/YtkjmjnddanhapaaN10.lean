/-
  What every statement begins with; words at the head of a source. Plain lemmas; no condition beyond those that stand in each statement.
-/
import Derived.Test.YtkjmjnddanhapaaU9
namespace Go.Proofs.Ytkjmjnddanhapaa
open Go.RowKit

theorem BytesAt.own {w : World} {b n : Nat} {l : List UInt8} {T : TypeId} {fr : Nat × Nat} (h : w.heap[b]? = some (.cells (l.map fun u => Value.int .u8 (u.toNat : Int)).toArray T fr)) (hn : n = l.length) (hl : n ≤ 9223372036854775807) : BytesAt w (.slice (some ⟨b, 0, none⟩) n n) l := by
  refine RowsAt.own (rows := l.map fun u => #[Value.int .u8 (u.toNat : Int)]) (sz := 1) (T := T) (fr := fr) ?_ (by intro r hr; obtain ⟨u, _, rfl⟩ := List.mem_map.1 hr; rfl) (by simpa using hn) (Nat.le_refl _) hl
  rw [h]
  congr 3
  clear h hn
  induction l with
  | nil => rfl
  | cons a r ih => rw [List.map_cons, List.map_cons, List.flatMap_cons, ← ih]; rfl
theorem At.markB {P : Program} {N : Nat} {ds : List Deferred} {L : List (Nat × Value)} {w : World} {ops : Array Oper} {Q : Exit → Act → World → Prop} {rest : List Oper} {d : Nat}
    {ty : TypeId} {pos : String} {aft : Array Edge} {x : Operand} {t e T : TypeId} {l : List UInt8} {b n : Nat} (hx : ev L x = some (.slice (some ⟨b, 0, none⟩) n n)) (hb : w.heap[b]? = some (.cells (l.map fun u => Value.int .u8 (u.toNat : Int)).toArray T)) (hn : n = l.length) (hl : n ≤ 9223372036854775807)
    (ht : elemB P t = some e) (he : intKB P e = some .u8) (hN : Nat.blt d N = true)
    (k : ∀ w', SetB w w' b (.cells (l.map fun u => Value.int .u8 (u.toNat : Int)).toArray T (l.length, l.length + 1)) → BytesAt w' (.slice (some ⟨b, 0, none⟩) n n) l → At N ds ((d, .slice (some ⟨b, 0, none⟩) n n) :: L) (wpList P ops Q rest) w') :
    At N ds L (wpList P ops Q (⟨some d, .convert t t x, ty, pos, aft, none⟩ :: rest)) w := by
  have hlt : b < w.heap.size := (Array.getElem?_eq_some_iff.1 hb).1
  have hsh : w.shape? b = some (T, l.length) := by unfold World.shape?; rw [hb]; simp
  have hnew : (w.freeze ⟨b, l.length, none⟩ 1).heap[b]? = some (.cells (l.map fun u => Value.int .u8 (u.toNat : Int)).toArray T (l.length, l.length + 1)) := by
    unfold World.freeze
    rw [if_neg (by decide)]
    show (w.heap.modify b _)[b]? = _
    rw [Array.getElem?_modify, if_pos rfl, hb]
    rfl
  have hset : SetB w (w.freeze ⟨b, l.length, none⟩ 1) b (.cells (l.map fun u => Value.int .u8 (u.toNat : Int)).toArray T (l.length, l.length + 1)) := by
    have hs : (w.freeze ⟨b, l.length, none⟩ 1).heap.size = w.heap.size := by
      unfold World.freeze
      rw [if_neg (by decide)]
      show (w.heap.modify b _).size = _
      rw [Array.size_modify]
    refine ⟨hnew, hs, ⟨?_, ?_, ?_, Nat.le_of_eq hs.symm, fun j hj hne => ?_⟩⟩
    · unfold World.freeze; rw [if_neg (by decide)]
    · unfold World.freeze; rw [if_neg (by decide)]
    · unfold World.freeze; rw [if_neg (by decide)]
    · unfold World.freeze
      rw [if_neg (by decide)]
      show (w.heap.modify b _)[j]? = _
      rw [Array.getElem?_modify, if_neg (by intro e; apply hne; rw [e])]
  refine At.op rfl rfl hN (fun a ha => ?_) (k _ hset (BytesAt.own hnew hn hl))
  have h : (convert t t (.slice (some ⟨b, 0, none⟩) n n)).run P w = .ok (.slice (some ⟨b, 0, none⟩) n n) (w.freeze ⟨b, l.length, none⟩ 1) := by
    simp [convert, run_underlying (underlying_elem ht), run_underlying (underlying_intK he), markStringish, hsh]
  simp only [execOp, ha.ev hx, Sem.run_bind, h, Result.andThen_ok, Sem.run_pure]
def skipF : Nat → List UInt8 → List UInt8
  | 0, l => l
  | f + 1, l => if blank1 l = 0 then l else skipF f (l.drop (blank1 l))
theorem skipF_eq : ∀ (f : Nat) (l : List UInt8), l.length ≤ f → skipF f l = skip l := by
  intro f
  induction f with
  | zero => intro l hl; have : l = [] := List.length_eq_zero_iff.1 (by omega); subst this; rw [skip_zero rfl]; rfl
  | succ f ih =>
    intro l hl
    by_cases h : blank1 l = 0
    · rw [skip_zero h, skipF, if_pos h]
    · have := blank1_le l
      rw [skip_more h, skipF, if_neg h, ih _ (by simp only [List.length_drop]; omega)]
def lexF : Nat → Nat → List UInt8 → LR
  | 0, _, _ => .ok []
  | f + 1, a, l => match skipF l.length l with
    | [] => .ok []
    | u :: r => if (wordR (u :: r)).ok then LR.pre [(wordR (u :: r)).tok.put (a + (l.length - (u :: r).length))] (lexF f (a + (l.length - (u :: r).length) + (wordR (u :: r)).n) ((u :: r).drop (wordR (u :: r)).n)) else .bad (a + (l.length - (u :: r).length))
theorem lexF_eq : ∀ (f a : Nat) (l : List UInt8), l.length < f → lexF f a l = lexW a l := by
  intro f
  induction f with
  | zero => intro a l h; omega
  | succ f ih =>
    intro a l h
    unfold lexF
    rw [skipF_eq _ _ (Nat.le_refl _)]
    have hle := skip_le _ l (Nat.le_refl _)
    cases hs : skip l with
    | nil => rw [lexW_end hs]
    | cons u r =>
      have hne : skip l ≠ [] := by rw [hs]; simp
      have hlen : (skip l).length = r.length + 1 := by rw [hs]; rfl
      cases hk : (wordR (skip l)).ok with
      | false => rw [lexW_bad hne hk, hs] ; rw [hs] at hk; simp [hk]
      | true =>
        have hp := (word_le hne hk).1
        rw [lexW_word hne hk, ← ih _ _ (by simp only [List.length_drop]; omega), hs]
        rw [hs] at hk; simp [hk]
/-- A source is words: whether, which, or where it is not. -/
theorem lex_is {l : List UInt8} {x : LR} (h : lexF (l.length + 1) 0 l = x) : lexW 0 l = x := by rw [← h, lexF_eq _ _ _ (by omega)]
def s1 : List UInt8 := [101, 102, 102, 101, 99, 116, 32, 69, 32, 123, 32, 103, 101, 116, 32, 58, 32, 117, 110, 105, 116, 32, 45, 62, 32, 105, 110, 116, 32, 125, 32, 102, 32, 120, 32, 43, 32, 49]
def s2 : List UInt8 := [102, 32, 120, 32, 43]
def x1 : SPr := ⟨[⟨(⟨#[69]⟩ : ByteArray), [⟨(⟨#[103, 101, 116]⟩ : ByteArray), ⟨3, E0B⟩, ⟨1, E0B⟩⟩]⟩], [], .mk 10 31 (⟨#[43]⟩ : ByteArray) E0B 0 [.mk 6 31 E0B E0B 0 [.mk 1 31 (⟨#[102]⟩ : ByteArray) E0B 0 [] [], .mk 1 33 (⟨#[120]⟩ : ByteArray) E0B 0 [] []] [], .mk 2 37 E0B E0B 1 [] []] []⟩
def t1 : List Tk := [⟨4, [101, 102, 102, 101, 99, 116], 0, 0⟩, ⟨3, [69], 0, 7⟩, ⟨5, [123], 0, 9⟩, ⟨2, [103, 101, 116], 0, 11⟩, ⟨5, [58], 0, 15⟩, ⟨4, [117, 110, 105, 116], 0, 17⟩, ⟨5, [45, 62], 0, 22⟩, ⟨4, [105, 110, 116], 0, 25⟩, ⟨5, [125], 0, 29⟩, ⟨2, [102], 0, 31⟩, ⟨2, [120], 0, 33⟩, ⟨5, [43], 0, 35⟩, ⟨1, [49], 1, 37⟩]
theorem s1_lex : lexW 0 s1 = .ok t1 := lex_is (by kernel_rfl)
theorem s2_lex : lexW 0 s2 = .ok [⟨2, [102], 0, 0⟩, ⟨2, [120], 0, 2⟩, ⟨5, [43], 0, 4⟩] := lex_is (by kernel_rfl)
theorem t1_parse : programP 38 t1 = .ok x1 [] := by kernel_rfl
theorem t2_parse : programP 5 [⟨2, [102], 0, 0⟩, ⟨2, [120], 0, 2⟩, ⟨5, [43], 0, 4⟩] = .bad 5 3 := by kernel_rfl
-- ------------------------------------------------------------------ words at the head of a source
theorem lex_word {a : Nat} {w r : List UInt8} {t : Tk} (hb : blank1 (w ++ r) = 0) (hn : w ≠ []) (hw : wordR (w ++ r) = ⟨t, w.length, true⟩) : lexW a (w ++ r) = LR.pre [t.put a] (lexW (a + w.length) r) := by
  have hs : skip (w ++ r) = w ++ r := skip_zero hb
  have hk : (wordR (skip (w ++ r))).ok = true := by rw [hs, hw]
  rw [lexW_word (by rw [hs]; simp [hn]) hk, hs, hw]
  simp
theorem lexW_cong {a a' : Nat} {l l' : List UInt8} (h : skip l = skip l') (e : a + (l.length - (skip l).length) = a' + (l'.length - (skip l').length)) : lexW a l = lexW a' l' := by
  by_cases hs : skip l = []
  · rw [lexW_end hs, lexW_end (by rw [← h]; exact hs)]
  · have hs' : skip l' ≠ [] := by rw [← h]; exact hs
    cases hk : (wordR (skip l)).ok with
    | false => rw [lexW_bad hs hk, lexW_bad hs' (by rw [← h]; exact hk), e]
    | true => rw [lexW_word hs hk, lexW_word hs' (by rw [← h]; exact hk), e]; simp only [← h]
theorem skip_sp (r : List UInt8) : skip (32 :: r) = skip r := by
  have h1 : whileN blkB (32 :: r) = whileN blkB r + 1 := by unfold whileN; rw [List.takeWhile_cons, if_pos (by decide)]; rfl
  have hb : blank1 (32 :: r) = whileN blkB r + 1 := by
    unfold blank1; rw [h1, if_neg (by simp; omega)]
  rw [skip_more (by omega), hb, List.drop_succ_cons]
  by_cases h : whileN blkB r = 0
  · rw [h, List.drop_zero]
  · have hb2 : blank1 r = whileN blkB r := by unfold blank1; rw [if_neg (by simp; omega)]
    rw [skip_more (l := r) (by omega), hb2]
theorem lex_sp (a : Nat) (r : List UInt8) : lexW a (32 :: r) = lexW (a + 1) r :=
  lexW_cong (skip_sp r) (by have := skip_le _ r (Nat.le_refl _); rw [skip_sp]; simp only [List.length_cons]; omega)
theorem lex_nil (a : Nat) : lexW a [] = .ok [] := lexW_end (show skip [] = [] from skip_zero rfl)
/-- A source is words of this kind. -/
def Lx (l : List UInt8) (Q : List Tk → Prop) : Prop := ∀ a, ∃ ts, lexW a l = .ok ts ∧ Q ts
theorem Lx.word {w r : List UInt8} {k n : Int} {Q : List Tk → Prop} (hr : Lx r (fun ts => ∀ a, Q (⟨k, w, n, a⟩ :: ts))) (hb : blank1 (w ++ r) = 0) (hn : w ≠ []) (hw : wordR (w ++ r) = ⟨⟨k, w, n, 0⟩, w.length, true⟩) : Lx (w ++ r) Q := fun a => by
  obtain ⟨ts, h1, h2⟩ := hr (a + w.length)
  exact ⟨⟨k, w, n, (a : Int)⟩ :: ts, by rw [lex_word hb hn hw, h1]; rfl, h2 _⟩
theorem Lx.sp {r : List UInt8} {Q : List Tk → Prop} (hr : Lx r Q) : Lx (32 :: r) Q := fun a => by rw [lex_sp]; exact hr (a + 1)
theorem Lx.nil {Q : List Tk → Prop} (h : Q []) : Lx [] Q := fun a => ⟨[], lex_nil a, h⟩
theorem Lx.mono {l : List UInt8} {Q Q' : List Tk → Prop} (h : Lx l Q) (k : ∀ ts, Q ts → Q' ts) : Lx l Q' := fun a => by
  obtain ⟨ts, h1, h2⟩ := h a
  exact ⟨ts, h1, k ts h2⟩
-- ------------------------------------------------------------------ an atom alone, up to where no operator stands
/-- Nothing that goes on with a term. -/
structure Cl (e : Int) (us : List Tk) : Prop where
  app : appB e us = false
  mul : isK e us [(⟨#[42]⟩ : ByteArray), (⟨#[47]⟩ : ByteArray)] = false
  add : isK e us [(⟨#[43]⟩ : ByteArray), (⟨#[45]⟩ : ByteArray)] = false
  cmp : isK e us [(⟨#[60]⟩ : ByteArray), (⟨#[61]⟩ : ByteArray)] = false
  asg : isK e us [(⟨#[58, 61]⟩ : ByteArray)] = false
/-- Where an expression begins with none of its own words. -/
structure NoKw (e : Int) (ts : List Tk) : Prop where
  f : isK e ts [funB] = false
  l : isK e ts [letWB] = false
  r : isK e ts [recB] = false
  i : isK e ts [ifB] = false
  m : isK e ts [matB] = false
  h : isK e ts [hanB] = false
-- ------------------------------------------------------------------ what shown looks at
theorem s1_parse : parseR s1 = (some x1, 0, 0) := by
  obtain ⟨e1, e2, e3⟩ := lex_ok (l := s1) (by decide) s1_lex
  exact parseR_ok e3 (by rw [e1]; exact t1_parse) (by decide)
theorem s2_parse : parseR s2 = (none, 5, 3) := by
  obtain ⟨e1, e2, e3⟩ := lex_ok (l := s2) (by decide) s2_lex
  exact parseR_bad e3 (by rw [e1]; exact t2_parse)
structure ShF (p : Pr) : Prop where
  kids : p.body.kids.length = 2
  effs : p.effs.length = 1
  ops : ∀ u, p.effs[0]? = some u → u.ops.length = 1
  res : ∀ u, p.effs[0]? = some u → ∀ o, u.ops[0]? = some o → o.res.k = 1
  k : p.body.k = 10
  nm : p.body.nm = (⟨#[43]⟩ : ByteArray)
  at_ : p.body.at_ = 31
  k0 : ∀ u, p.body.kids[0]? = some u → u.k = 6
  k1 : ∀ u, p.body.kids[1]? = some u → u.n = 1
  d : dS (shT p.body) = 3
theorem shT_k (t : Tm) : ∀ {k a : Int} {nm pm : ByteArray} {n : Int} {ks : List ST} {as' : List SA}, shT t = .mk k a nm pm n ks as' → t.k = k ∧ t.at_ = a ∧ t.nm = nm ∧ t.pm = pm ∧ t.n = n ∧ t.kids.map shT = ks ∧ t.arms.map shAm = as' := by
  intro k a nm pm n ks as' h
  rw [shT_eq] at h
  injection h with h1 h2 h3 h4 h5 h6 h7
  exact ⟨h1, h2, h3, h4, h5, h6, h7⟩
theorem map_at {α β : Type} {f : α → β} {l : List α} {m : List β} (h : l.map f = m) {i : Nat} {u : α} (hu : l[i]? = some u) : m[i]? = some (f u) := by rw [← h, List.getElem?_map, hu]; rfl
theorem shown_facts {p : Pr} (h : shPr p = x1) : ShF p := by
  have he : p.effs.map shEff = x1.effs := congrArg SPr.effs h
  have hb : shT p.body = x1.body := congrArg SPr.body h
  obtain ⟨b1, b2, b3, b4, b5, b6, b7⟩ := shT_k p.body hb
  refine ⟨by have := congrArg List.length b6; simpa using this, by have := congrArg List.length he; simpa [x1] using this, fun u hu => ?_, fun u hu o ho => ?_, b1, b3, b2, fun u hu => ?_, fun u hu => ?_, by rw [hb]; rfl⟩
  · have := map_at he hu
    have h2 : shEff u = _ := (Option.some.inj this).symm
    have := congrArg (fun x : SEff => x.ops.length) h2
    simpa [shEff] using this
  · have := map_at he hu
    have h2 : shEff u = _ := (Option.some.inj this).symm
    have h3 := map_at (congrArg SEff.ops h2) ho
    have h4 : shOp o = _ := (Option.some.inj h3).symm
    exact (shTy_k (congrArg SOp.res h4) (by decide)).1
  · have := map_at b6 hu
    have h2 : shT u = _ := (Option.some.inj this).symm
    exact (shT_k u h2).1
  · have := map_at b6 hu
    have h2 : shT u = _ := (Option.some.inj this).symm
    exact (shT_k u h2).2.2.2.2.1
end Go.Proofs.Ytkjmjnddanhapaa
