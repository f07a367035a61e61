/-
  Interfaces held against nil and asked for their type; a deferred call that recovers. Plain lemmas over any program; no condition beyond those that stand in each statement.
-/
import Derived.Test.YtkjmjnddanhapaaU8
import Derived.Recover
import Derived.WideLaws
namespace Go.Proofs.Ytkjmjnddanhapaa
open Go.RowKit

def ifaceB (P : Program) (t : TypeId) : Bool := match P.underlying t with | some (.interface _) => true | _ => false
def plainB (P : Program) (t : TypeId) : Bool := match P.underlying t with | some (.struct _) => true | _ => false
section
variable {P : Program} {N : Nat} {ds : List Deferred} {L : List (Nat × Value)} {w : World} {ops : Array Oper} {Q : Exit → Act → World → Prop} {rest : List Oper} {d : Nat} {ty : TypeId} {pos : String} {aft : Array Edge} {x : Operand}
theorem eqIn_held (k : Nat) {t u : TypeId} {v : Value} {ms : Array (String × TypeId)} (h : P.underlying t = some (.interface ms)) : (Op.equalIn (k + 1) t (.iface u v) .nilIface).run P w = .ok false w := by simp [Op.equalIn, run_underlying h]
theorem eqIn_nil (k : Nat) {t : TypeId} {ms : Array (String × TypeId)} (h : P.underlying t = some (.interface ms)) : (Op.equalIn (k + 1) t .nilIface .nilIface).run P w = .ok true w := by simp [Op.equalIn, run_underlying h]
theorem run_neq_held {t u : TypeId} {v : Value} (h : ifaceB P t = true) : (binOp .neq t (.iface u v) .nilIface).run P w = .ok (.bool true) w := by
  unfold ifaceB at h
  split at h
  · rename_i ms hu
    have : (Op.equal t (.iface u v) .nilIface).run P w = .ok false w := eqIn_held 9999 hu
    simp only [binOp]
    simp [this]
  · cases h
theorem run_neq_nil {t : TypeId} (h : ifaceB P t = true) : (binOp .neq t .nilIface .nilIface).run P w = .ok (.bool false) w := by
  unfold ifaceB at h
  split at h
  · rename_i ms hu
    have : (Op.equal t .nilIface .nilIface).run P w = .ok true w := eqIn_nil 9999 hu
    simp only [binOp]
    simp [this]
  · cases h
theorem At.neHeld {t t' u : TypeId} {v : Value} (hx : ev L x = some (.iface u v)) (hi : ifaceB P t = true) (hN : Nat.blt d N = true) (k : At N ds ((d, .bool true) :: L) (wpList P ops Q rest) w) :
    At N ds L (wpList P ops Q (⟨some d, .binOp .neq t x (.const .nilIface) t', ty, pos, aft, none⟩ :: rest)) w :=
  At.op rfl rfl hN (fun a ha => by
    have h := run_neq_held (P := P) (w := w) (u := u) (v := v) hi
    have e : a.eval (.const .nilIface) = .nilIface := rfl
    simp [execOp, ha.ev hx, e, eqGuard, h]) k
theorem At.neNil {t t' : TypeId} (hx : ev L x = some .nilIface) (hi : ifaceB P t = true) (hN : Nat.blt d N = true) (k : At N ds ((d, .bool false) :: L) (wpList P ops Q rest) w) :
    At N ds L (wpList P ops Q (⟨some d, .binOp .neq t x (.const .nilIface) t', ty, pos, aft, none⟩ :: rest)) w :=
  At.op rfl rfl hN (fun a ha => by
    have h := run_neq_nil (P := P) (w := w) hi
    have e : a.eval (.const .nilIface) = .nilIface := rfl
    simp [execOp, ha.ev hx, e, eqGuard, h]) k
theorem At.assertOk {t u : TypeId} {v : Value} (hx : ev L x = some (.iface u v)) (hp : plainB P u = true) (hN : Nat.blt d N = true) (k : At N ds ((d, .tuple #[v, .bool true]) :: L) (wpList P ops Q rest) w) :
    At N ds L (wpList P ops Q (⟨some d, .typeAssert x t u true, ty, pos, aft, none⟩ :: rest)) w :=
  At.op rfl rfl hN (fun a ha => by
    unfold plainB at hp
    split at hp
    · rename_i fs hu
      simp [execOp, ha.ev hx, Instr.typeAssert, run_underlying hu]
    · cases hp) k
/-- recover, and what it finds into a slot. -/
theorem wpS_recover {id d6 d3 : Nat} {ty1 ty2 : TypeId} {pos1 pos2 : String} {aft1 aft2 : Array Edge} {Q : Exit → Act → List Frame → World → Prop} {a : Act} {cs cs2 : List Frame} {v : Value} (hN6 : Nat.blt d6 N = true) (hN3 : Nat.blt d3 N = true) (ha : Is N ds L a)
    (hr : (recoverD cs = none ∧ v = .nilIface ∧ cs2 = cs) ∨ recoverD cs = some (v, cs2)) (h : ∀ a', Is N ds ((d3, v) :: (d6, v) :: L) a' → Q .normal a' cs2 w) :
    (Code.region id #[⟨some d6, .call ⟨.builtin .recover, #[], #[]⟩, ty1, pos1, aft1, none⟩, ⟨some d3, .assign (.tmp d6), ty2, pos2, aft2, none⟩] false).wpS P Q a cs w := by
  apply wpS_region
  have h1 : (execOp a.eval ⟨some d6, .call ⟨.builtin .recover, #[], #[]⟩, ty1, pos1, aft1, none⟩).run P w = .ok .recover w := by
    simp [execOp, resolve, invoke, builtin]
  have hi : Is N ds ((d6, v) :: L) (a.put (some d6) v) := ha.put hN6
  have h2 : (execOp (a.put (some d6) v).eval ⟨some d3, .assign (.tmp d6), ty2, pos2, aft2, none⟩).run P w = .ok (.value v) w := by
    have := hi.ev (x := .tmp d6) (v := v) (by simp [Ytkjmjnddanhapaa.ev, look])
    simp [execOp, this]
  have h3 := h _ (hi.put hN3)
  show wpOpsS P _ Q [0, 1] a cs w
  rcases hr with ⟨e1, rfl, rfl⟩ | e1
  · simp [wpOpsS, Region.wanted, h1, e1, h2, Oper.upon]; exact h3
  · simp [wpOpsS, Region.wanted, h1, e1, h2, Oper.upon]; exact h3
end
theorem lexW_len' : ∀ (n : Nat) (l : List UInt8), l.length ≤ n → ∀ (a : Nat) (ts : List Tk), lexW a l = .ok ts → ts.length ≤ l.length := by
  intro n
  induction n with
  | zero =>
    intro l hl a ts h
    have : l = [] := List.length_eq_zero_iff.1 (by omega)
    subst this
    rw [lexW_end (show skip [] = [] from skip_zero rfl)] at h; cases h; exact Nat.zero_le _
  | succ n ih =>
    intro l hl a ts h
    by_cases hs : skip l = []
    · rw [lexW_end hs] at h; cases h; exact Nat.zero_le _
    · have hle := skip_le _ l (Nat.le_refl _)
      cases hk : (wordR (skip l)).ok with
      | false => rw [lexW_bad hs hk] at h; cases h
      | true =>
        have hwl := word_le hs hk
        rw [lexW_word hs hk] at h
        cases hr : lexW (a + (l.length - (skip l).length) + (wordR (skip l)).n) ((skip l).drop (wordR (skip l)).n) with
        | ok r =>
          rw [hr] at h
          have h1 := ih _ (by simp only [List.length_drop]; omega) _ _ hr
          cases h
          simp only [List.length_drop, List.length_cons, List.length_append, List.length_nil] at h1 ⊢
          omega
        | bad p => rw [hr] at h; cases h
theorem lexT_len (l : List UInt8) : (lexT l).length ≤ 1048576 := by
  by_cases hb : 1048576 < l.length
  · rw [(lex_big hb).1]; simp
  · cases hl : lexW 0 l with
    | ok ts => rw [(lex_ok hb hl).1]; have := lexW_len' _ l (Nat.le_refl _) _ _ hl; omega
    | bad p => rw [(lex_bad hb hl).1]; simp
-- ------------------------------------------------------------------ Parse and its deferred call
section
variable {P : Program} {N : Nat} {L : List (Nat × Value)} {w : World}
theorem At.doneS {fn : Func} {c₀ : Frame} {cs cs2 : List Frame} {R : Ending → FrameMode → World → Prop} {vs : List Value} {u' : FrameMode} (h : ResV P L w fn.results.toList vs) (hcs : cs2 = { c₀ with mode := u' } :: cs) (hR : R (.returned (resOf vs)) u' w) :
    At N [] L ((fun (e : Exit) (a : Act) (w : World) => bodyPostS P fn c₀ cs R e a cs2 w) .normal) w := fun a ha => ⟨ha.defers, u', hcs, _, run_results ha h, hR⟩
theorem PanicOk.bodyS {fn : Func} {c₀ : Frame} {cs cs2 : List Frame} {R : Ending → FrameMode → World → Prop} : PanicOk (fun (e : Exit) (a : Act) (w : World) => bodyPostS P fn c₀ cs R e a cs2 w) := fun _ _ _ _ hd h => ⟨hd.trans h.1, h.2⟩
theorem At.thenP {ds : List Deferred} {K : Act → World → Prop} {Q : Exit → Act → World → Prop} {c : List PanicEntry} (h : At N ds L (Q (.panic c)) w) : At N ds L (Exit.then K Q (.panic c)) w := h
end
theorem parseR_lex {l : List UInt8} (h : lexE l ≠ 0) : parseR l = (none, (lexA l : Int), lexE l) := by rw [parseR, if_neg h]
theorem parseR_bad {l : List UInt8} {a c : Int} (h : lexE l = 0) (hp : programP (l.length : Int) (lexT l) = .bad a c) : parseR l = (none, a, c) := by rw [parseR, if_pos h, hp]
theorem parseR_deep {l : List UInt8} {x : SPr} {us : List Tk} (h : lexE l = 0) (hp : programP (l.length : Int) (lexT l) = .ok x us) (hd : 200 < dS x.body) : parseR l = (none, 0, 6) := by
  rw [parseR, if_pos h, hp]; simp only; rw [if_pos hd]
theorem parseR_ok {l : List UInt8} {x : SPr} {us : List Tk} (h : lexE l = 0) (hp : programP (l.length : Int) (lexT l) = .ok x us) (hd : ¬ 200 < dS x.body) : parseR l = (some x, 0, 0) := by
  rw [parseR, if_pos h, hp]; simp only; rw [if_neg hd]
theorem zPr_pl : plT zPr.body := by
  show plT zeroTm
  rw [zeroTm, plT]
  exact ⟨rfl, trivial, trivial⟩
section
variable {P : Program} {N : Nat} {ds : List Deferred} {L : List (Nat × Value)} {w : World} {c : Code} {Q : Exit → Act → World → Prop} {K : Act → World → Prop}
/-- A piece that neither panics nor leaves. -/
theorem At.calm (h : At N ds L (c.wp P (onNormal (Q .normal) (fun _ _ _ => False))) w) : At N ds L (c.wp P Q) w := fun a ha => Code.wp_mono (fun e a w h => by cases e <;> first | exact h | exact h.elim) (h a ha)
theorem At.calmN (h : At N ds L K w) : At N ds L (onNormal K Q .normal) w := h
theorem PanicOk.calm : PanicOk (onNormal K (fun _ _ _ => False)) := fun _ _ _ _ _ h => h
end
end Go.Proofs.Ytkjmjnddanhapaa
