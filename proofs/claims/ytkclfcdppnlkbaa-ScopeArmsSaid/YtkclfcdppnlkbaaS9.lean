/-
  Declarations more: what the check answers of a program with an effect more, with a data more. Plain definitions and lemmas; no condition.
-/
import Derived.Test.YtkclfcdppnlkbaaS7
import Derived.Test.YtkclfcdppnlkbaaR3
import Derived.Test.YtkclfcdppnlkbaaK10
namespace Go.Proofs.Ytkclfcdppnlkbaa
open Go.RowKit

-- ------------------------------------------------------------------ nothing goes round
theorem wrap_small {x : Int} (h0 : 0 ≤ x) (h : x ≤ 4611686018427387904) : IntKind.i64.wrap x = x := by
  have : IntKind.i64.wrap x = x := by
    simp only [IntKind.wrap]
    simp [IntKind.bits, IntKind.signed]
    omega
  exact this
theorem effN_le : ∀ (l : List Eff) (c : Int), 0 ≤ c → c + ((l.map effW).sum : Nat) ≤ 4611686018427387904 → c ≤ l.foldl effN c ∧ l.foldl effN c ≤ c + ((l.map effW).sum : Nat) := by
  intro l
  induction l with
  | nil => intro c _ _; simp
  | cons e l ih =>
    intro c h0 h
    simp only [List.map_cons, List.sum_cons, List.foldl_cons, effW] at h ⊢
    have h1 : effN c e = c + (e.ops.length : Int) := by unfold effN; exact wrap_small (by omega) (by omega)
    have h2 := ih (effN c e) (by omega) (by omega)
    omega
theorem conN_le : ∀ (l : List Cn) (c : Int), 0 ≤ c → c + ((l.map cnW).sum : Nat) ≤ 4611686018427387904 → c ≤ l.foldl conN c ∧ l.foldl conN c ≤ c + ((l.map cnW).sum : Nat) := by
  intro l
  induction l with
  | nil => intro c _ _; simp
  | cons e l ih =>
    intro c h0 h
    simp only [List.map_cons, List.sum_cons, List.foldl_cons, cnW] at h ⊢
    have h1 : conN c e = c + 1 + (e.fields.length : Int) := by
      unfold conN
      rw [wrap_small (x := c + 1) (by omega) (by omega)]
      exact wrap_small (by omega) (by omega)
    have h2 := ih (conN c e) (by omega) (by omega)
    omega
theorem datN_le : ∀ (l : List Dat) (c : Int), 0 ≤ c → c + ((l.map datW).sum : Nat) ≤ 4611686018427387904 → c ≤ l.foldl datN c ∧ l.foldl datN c ≤ c + ((l.map datW).sum : Nat) := by
  intro l
  induction l with
  | nil => intro c _ _; simp
  | cons e l ih =>
    intro c h0 h
    simp only [List.map_cons, List.sum_cons, List.foldl_cons, datW] at h ⊢
    have h1 := conN_le e.cons c h0 (by omega)
    have h2 := ih (datN c e) (by unfold datN; omega) (by unfold datN; omega)
    unfold datN at h2 ⊢
    omega
theorem large_len {p : Pr} {c : Nat} (h : PrSmall p c) (hc : c ≤ 1048576) (hl : largeB p = false) : p.effs.length ≤ 100 ∧ p.dats.length ≤ 100 := by
  have h1 := h.effs
  have h2 := h.dats
  have h3 := sum_pos (l := p.effs) (f := effW) (fun x _ => by simp [effW])
  have h4 := sum_pos (l := p.dats) (f := datW) (fun x _ => by simp [datW])
  unfold largeB at hl
  have h5 : ¬ 100 < largeN p := by
    intro hh; rw [if_pos (decide_eq_true hh)] at hl; cases hl
  unfold largeN at h5
  rw [wrap_small (x := (p.effs.length : Int) + p.dats.length) (by omega) (by omega)] at h5
  have h6 := effN_le p.effs ((p.effs.length : Int) + p.dats.length) (by omega) (by omega)
  have h7 := datN_le p.dats (p.effs.foldl effN ((p.effs.length : Int) + p.dats.length)) (by omega) (by omega)
  omega

theorem any_snoc {α : Type} {f : α → Bool} {l : List α} {k : Nat} {u : α} (hu : l[k]? = some u) : (l.take (k + 1)).any f = ((l.take k).any f || f u) := by
  rw [take_succ_snoc hu, List.any_append]; simp
-- ------------------------------------------------------------------ rows one after the other
theorem opsB_app (dats : List Dat) (m : List Op) : ∀ (l : List Op) (ops : List ByteArray), opsB dats ops (l ++ m) = (opsB dats ops l && opsB dats (ops ++ l.map Op.nm) m) := by
  intro l
  induction l with
  | nil => intro ops; simp [opsB]
  | cons o l ih => intro ops; rw [List.cons_append, opsB, opsB, ih]; split <;> simp [List.append_assoc]
theorem effsB_app (dats : List Dat) (m : List Eff) : ∀ (l : List Eff) (all ops : List ByteArray), effsB dats all ops (l ++ m) = (effsB dats all ops l && effsB dats (all ++ l.map Eff.nm) (ops ++ l.flatMap fun e => e.ops.map Op.nm) m) := by
  intro l
  induction l with
  | nil => intro all ops; simp [effsB]
  | cons e l ih => intro all ops; rw [List.cons_append, effsB, effsB, ih]; split <;> simp [List.append_assoc, Bool.and_assoc]
theorem datsB_app (dats : List Dat) (m : List Dat) : ∀ (l : List Dat) (all ops : List ByteArray), datsB dats all ops (l ++ m) = (datsB dats all ops l && datsB dats (all ++ l.map Dat.nm) (ops ++ l.flatMap fun e => e.cons.map Cn.nm) m) := by
  intro l
  induction l with
  | nil => intro all ops; simp [datsB]
  | cons e l ih => intro all ops; rw [List.cons_append, datsB, datsB, ih]; split <;> simp [List.append_assoc, Bool.and_assoc]
theorem find_some_any {α : Type} (p : α → Bool) : ∀ l : List α, (l.find? p).isSome = l.any p := by
  intro l
  induction l with
  | nil => rfl
  | cons a l ih => rw [List.find?_cons, List.any_cons]; cases h : p a <;> simp [ih]
theorem findSome_any {α β : Type} (f : α → Option β) : ∀ l : List α, (l.findSome? f).isSome = l.any fun x => (f x).isSome := by
  intro l
  induction l with
  | nil => rfl
  | cons a l ih => rw [List.findSome?_cons, List.any_cons]; cases h : f a <;> simp [ih]
theorem memB_flat {α : Type} (f : α → List ByteArray) (s : ByteArray) (l : List α) : memB s (l.flatMap f) = l.any fun x => memB s (f x) := by
  induction l with
  | nil => rfl
  | cons a l ih => rw [List.flatMap_cons, memB_append, ih, List.any_cons]
theorem memB_map {α : Type} (f : α → ByteArray) (s : ByteArray) (l : List α) : memB s (l.map f) = l.any fun x => decide (f x = s) := by
  simp only [memB, List.any_map]; rfl
theorem hd_mem (l : List Eff) (s : ByteArray) : (findHd l s).isSome = memB s (l.map Eff.nm) := by rw [memB_map]; exact find_some_any _ _
theorem eff_mem (l : List Eff) (s : ByteArray) : (findEff l s).isSome = memB s (l.flatMap fun e => e.ops.map Op.nm) := by
  rw [memB_flat]
  unfold findEff
  rw [findSome_any]
  congr 1; funext e
  rw [memB_map, opIn, Option.isSome_map, find_some_any]; rfl
theorem con_mem (l : List Dat) (s : ByteArray) : (findCon l s).isSome = memB s (l.flatMap fun e => e.cons.map Cn.nm) := by
  rw [memB_flat]
  unfold findCon
  rw [findSome_any]
  congr 1; funext e
  rw [memB_map, conIn, Option.isSome_map, find_some_any]; rfl
theorem hd_app {l : List Eff} (m : List Eff) {s : ByteArray} (h : (findHd l s).isSome = true) : findHd (l ++ m) s = findHd l s := by
  unfold findHd at *; rw [List.find?_append]; cases hq : l.find? (effIs s) with | none => rw [hq] at h; cases h | some a => rfl
theorem eff_app {l : List Eff} (m : List Eff) {s : ByteArray} (h : (findEff l s).isSome = true) : findEff (l ++ m) s = findEff l s := by
  unfold findEff at *; rw [List.findSome?_append]; cases hq : l.findSome? (opIn s) with | none => rw [hq] at h; cases h | some a => rfl
theorem con_app {l : List Dat} (m : List Dat) {s : ByteArray} (h : (findCon l s).isSome = true) : findCon (l ++ m) s = findCon l s := by
  unfold findCon at *; rw [List.findSome?_append]; cases hq : l.findSome? (conIn s) with | none => rw [hq] at h; cases h | some a => rfl

-- ------------------------------------------------------------------ what is right stays right
section
variable {p q : Pr}
mutual
theorem termS_ext (H : ∀ t b, oneB p t b = true → oneB q t b = true) : ∀ (t : Tm) (b : List ByteArray), termS p b t = none → termS q b t = none
  | .mk cs k at_ nm pm n kv av kids arms, b, h => by
    rw [termS] at h ⊢
    cases ho : oneB p (.mk cs k at_ nm pm n kv av kids arms) b with
    | false => rw [ho] at h; cases h
    | true =>
      rw [ho, if_pos rfl] at h
      rw [H _ _ ho, if_pos rfl, kidsS_ext H kids k nm pm b 0 (orO_nil h).1, armsS_ext H arms b (orO_nil h).2]; rfl
theorem kidsS_ext (H : ∀ t b, oneB p t b = true → oneB q t b = true) : ∀ (l : List Tm) (k : Int) (nm pm : ByteArray) (b : List ByteArray) (i : Nat), kidsS p k nm pm b i l = none → kidsS q k nm pm b i l = none
  | [], _, _, _, _, _, _ => rfl
  | t :: l, k, nm, pm, b, i, h => by
    rw [kidsS] at h ⊢
    rw [termS_ext H t _ (orO_nil h).1, kidsS_ext H l k nm pm b (i + 1) (orO_nil h).2]; rfl
theorem armsS_ext (H : ∀ t b, oneB p t b = true → oneB q t b = true) : ∀ (l : List Am) (b : List ByteArray), armsS p b l = none → armsS q b l = none
  | [], _, _ => rfl
  | .mk _ _ _ vars body :: l, b, h => by
    rw [armsS] at h ⊢
    rw [termS_ext H body _ (orO_nil h).1, armsS_ext H l b (orO_nil h).2]; rfl
end
end
theorem handlerOk_ext {l m : List Eff} {t : Tm} (h : handlerOk l t = true) : handlerOk (l ++ m) t = true := by
  have hs : (findHd l t.nm).isSome = true := by cases hq : (findHd l t.nm).isSome with | true => rfl | false => rw [handlerOk_ne hq] at h; cases h
  unfold handlerOk at *
  rw [hd_app m hs]; exact h
theorem matchOk_ext {l m : List Dat} {t : Tm} (h : matchOk l t = true) : matchOk (l ++ m) t = true := by
  unfold matchOk at *
  cases ha : t.arms with
  | nil => rw [ha] at h; cases h
  | cons a r =>
    rw [ha] at h
    simp only at h ⊢
    have hs : (findCon l a.nm).isSome = true := by cases hq : findCon l a.nm with | some x => rfl | none => rw [hq] at h; cases h
    rw [con_app m hs]; exact h
theorem oneB_effs {p : Pr} {v : Value} {m : List Eff} (t : Tm) (b : List ByteArray) (h : oneB p t b = true) : oneB (p.withEffs v (p.effs ++ m)) t b = true := by
  have he : (p.withEffs v (p.effs ++ m)).effs = p.effs ++ m := rfl
  have hd : (p.withEffs v (p.effs ++ m)).dats = p.dats := rfl
  by_cases h14 : t.k = 14
  · unfold oneB at *
    simp only [h14, decide_true, if_true, Bool.and_eq_true] at h ⊢
    exact ⟨h.1, by rw [he]; exact handlerOk_ext h.2⟩
  by_cases h13 : t.k = 13
  · unfold oneB at *
    simp only [h13, Int.reduceEq, decide_false, decide_true, Bool.or_self, Bool.false_eq_true, if_false, if_true, Bool.and_eq_true] at h ⊢
    exact ⟨⟨by rw [he, eff_app m h.1.1]; exact h.1.1, h.1.2⟩, h.2⟩
  · unfold oneB at *
    simpa [h13, h14, hd] using h
theorem oneB_dats {p : Pr} {v : Value} {m : List Dat} (t : Tm) (b : List ByteArray) (h : oneB p t b = true) : oneB (p.withDats v (p.dats ++ m)) t b = true := by
  have hd : (p.withDats v (p.dats ++ m)).dats = p.dats ++ m := rfl
  have he : (p.withDats v (p.dats ++ m)).effs = p.effs := rfl
  by_cases h12 : t.k = 12
  · unfold oneB at *
    simp only [h12, Int.reduceEq, decide_false, decide_true, Bool.false_eq_true, if_false, if_true, Bool.and_eq_true] at h ⊢
    exact ⟨h.1, by rw [hd]; exact matchOk_ext h.2⟩
  by_cases h11 : t.k = 11
  · unfold oneB at *
    simp only [h11, Int.reduceEq, decide_false, decide_true, Bool.or_self, Bool.false_eq_true, if_false, if_true, Bool.and_eq_true] at h ⊢
    rw [hd, con_app m h.1.1]; exact h
  · unfold oneB at *
    simpa [h11, h12, he] using h
def DatSub (a b : List Dat) : Prop := ∀ s, a.any (datIs s) = true → b.any (datIs s) = true
theorem DatSub.app (a m : List Dat) : DatSub a (a ++ m) := fun s h => by rw [List.any_append, h]; rfl
section
variable {a b : List Dat}
theorem knownT_ext (H : DatSub a b) {t : Ty} (h : knownT a t = true) : knownT b t = true := by
  unfold knownT kb at *
  split at h
  · rename_i h1
    rw [if_pos h1]
    split at h
    · rename_i h2; rw [if_pos h2]
    · rename_i h2
      rw [if_neg h2]
      split at h
      · rename_i h3; rw [if_pos h3]; exact H _ h
      · cases h
  · cases h
theorem opsB_ext (H : DatSub a b) : ∀ (l : List Op) (ops : List ByteArray), opsB a ops l = true → opsB b ops l = true := by
  intro l
  induction l with
  | nil => intro _ _; rfl
  | cons o l ih =>
    intro ops h
    rw [opsB] at h ⊢
    split at h
    · cases h
    · rename_i h1
      simp only [Bool.or_eq_true, Bool.not_eq_true', Bool.and_eq_false_iff, not_or, Bool.not_eq_false] at h1
      rw [if_neg (by simp only [Bool.or_eq_true, Bool.not_eq_true', Bool.and_eq_false_iff, not_or, Bool.not_eq_false]; exact ⟨h1.1, knownT_ext H h1.2.1, knownT_ext H h1.2.2⟩)]
      exact ih _ h
theorem effsB_ext (H : DatSub a b) : ∀ (l : List Eff) (all ops : List ByteArray), effsB a all ops l = true → effsB b all ops l = true := by
  intro l
  induction l with
  | nil => intro _ _ _; rfl
  | cons o l ih =>
    intro all ops h
    rw [effsB] at h ⊢
    split at h
    · cases h
    · rename_i h1
      rw [if_neg h1]
      rw [Bool.and_eq_true] at h ⊢
      exact ⟨opsB_ext H _ _ h.1, ih _ _ h.2⟩
theorem consB_ext (H : DatSub a b) : ∀ (l : List Cn) (ops : List ByteArray), consB a ops l = true → consB b ops l = true := by
  intro l
  induction l with
  | nil => intro _ _; rfl
  | cons o l ih =>
    intro ops h
    rw [consB] at h ⊢
    split at h
    · cases h
    · rename_i h1
      simp only [Bool.or_eq_true, Bool.not_eq_true', not_or, Bool.not_eq_false] at h1
      rw [if_neg (by simp only [Bool.or_eq_true, Bool.not_eq_true', not_or, Bool.not_eq_false]; exact ⟨h1.1, List.all_eq_true.2 fun t ht => knownT_ext H (List.all_eq_true.1 h1.2 t ht)⟩)]
      exact ih _ h
theorem datsB_ext (H : DatSub a b) : ∀ (l : List Dat) (all ops : List ByteArray), datsB a all ops l = true → datsB b all ops l = true := by
  intro l
  induction l with
  | nil => intro _ _ _; rfl
  | cons o l ih =>
    intro all ops h
    rw [datsB] at h ⊢
    split at h
    · cases h
    · rename_i h1
      rw [if_neg h1]
      rw [Bool.and_eq_true] at h ⊢
      exact ⟨consB_ext H _ _ h.1, ih _ _ h.2⟩
end

-- ------------------------------------------------------------------ data made
def unitTy : Ty := { cs := #[.int .i64 3, .string emp, .int .i64 0, .slice none 0 0, .slice none 0 0, .int .i64 0], k := 3, nm := emp, var := 0, av := .slice none 0 0, args := 0, lv := .slice none 0 0, labels := 0, rvar := 0 }
theorem unitTy_ok : TyOk unitTy := ⟨rfl, by simp [unitTy, Value.oneCell'], rfl, rfl, rfl, rfl, rfl, rfl, SlOk.nil, SlOk.nil⟩
theorem unitTy_known (dats : List Dat) : knownT dats unitTy = true := by simp [knownT, kb, unitTy, emp]
def unitOp (s : ByteArray) : Op := { cs := #[.string s, .int .i64 3, .string emp, .int .i64 0, .slice none 0 0, .slice none 0 0, .int .i64 0, .int .i64 3, .string emp, .int .i64 0, .slice none 0 0, .slice none 0 0, .int .i64 0], nm := s, arg := unitTy, res := unitTy }
theorem unitOp_ok (s : ByteArray) : OpOk (unitOp s) := ⟨rfl, by simp [unitOp, Value.oneCell'], rfl, rfl, rfl, unitTy_ok, unitTy_ok⟩
def ownEff (s : ByteArray) (v : Value) (l : List Op) : Eff := { cs := #[.string s, v], nm := s, ov := v, ops := l }
theorem ownEff_ok {w : World} {s : ByteArray} {v : Value} {l : List Op} (h : RowsAt w v 13 (l.map Op.cs)) (ho : ∀ o ∈ l, OpOk o) : EffOk w (ownEff s v l) :=
  ⟨rfl, by simp [ownEff, h.ok.one, show (Value.string s).oneCell' = true from rfl], rfl, rfl, h, ho⟩
def ownCn (s : ByteArray) (v : Value) (l : List Ty) : Cn := { cs := #[.string s, v], nm := s, fv := v, fields := l }
theorem ownCn_ok {w : World} {s : ByteArray} {v : Value} {l : List Ty} (h : RowsAt w v 6 (l.map Ty.cs)) (ho : ∀ o ∈ l, TyOk o) : CnOk w (ownCn s v l) :=
  ⟨rfl, by simp [ownCn, h.ok.one, show (Value.string s).oneCell' = true from rfl], rfl, rfl, h, ho⟩
def ownDat (s : ByteArray) (v : Value) (l : List Cn) : Dat := { cs := #[.string s, v], nm := s, cv := v, cons := l }
theorem ownDat_ok {w : World} {s : ByteArray} {v : Value} {l : List Cn} (h : RowsAt w v 2 (l.map Cn.cs)) (ho : ∀ o ∈ l, CnOk w o) : DatOk w (ownDat s v l) :=
  ⟨rfl, by simp [ownDat, h.ok.one, show (Value.string s).oneCell' = true from rfl], rfl, rfl, h, ho⟩

-- ------------------------------------------------------------------ the law
section
variable {p : Pr} {v : Value}
theorem more_eff {e : Eff} {op : ByteArray} (hok : (checkP p).2 = 0) (hl : p.effs.length ≤ 100) (ho : e.ops = [unitOp op]) :
    decide ((checkP (p.withEffs v (p.effs ++ [e]))).2 = 0) = ((((!(findHd p.effs e.nm).isSome && !(findEff p.effs op).isSome) && !decide (e.nm = con_)) && !decide (e.nm = (⟨#[]⟩ : ByteArray))) && !decide (op = (⟨#[]⟩ : ByteArray))) := by
  have h0 := checkP_ok.1 hok
  have hb : termS (p.withEffs v (p.effs ++ [e])) [] (p.withEffs v (p.effs ++ [e])).body = none := termS_ext (fun t b => oneB_effs t b) _ _ h0.2
  have hd := h0.1
  unfold declB at hd
  simp only [Bool.and_eq_true] at hd
  have h1 : decide ((checkP (p.withEffs v (p.effs ++ [e]))).2 = 0) = declB (p.withEffs v (p.effs ++ [e])) := by
    have hiff := @checkP_ok
    cases hq : declB _ with
    | true => exact decide_eq_true (hiff.2 ⟨hq, hb⟩)
    | false => exact decide_eq_false fun e => by have q := (hiff.1 e).1; rw [hq] at q; cases q
  rw [h1]
  unfold declB
  rw [show (p.withEffs v (p.effs ++ [e])).effs = p.effs ++ [e] from rfl, show (p.withEffs v (p.effs ++ [e])).dats = p.dats from rfl]
  rw [hd.2, effsB_app, hd.1.2, decide_eq_false (p := 65534 < ((p.effs ++ [e]).length : Int)) (by simp; omega), hd_mem, eff_mem]
  simp only [effsB, ho, opsB, memB_con, List.nil_append, unitOp, unitTy_known, List.map_cons, List.map_nil]
  generalize memB e.nm (p.effs.map Eff.nm) = a
  generalize memB op (p.effs.flatMap fun e => e.ops.map Op.nm) = b
  generalize decide (e.nm = con_) = c
  generalize decide (e.nm = (⟨#[]⟩ : ByteArray)) = d
  generalize decide (op = (⟨#[]⟩ : ByteArray)) = f
  cases a <;> cases b <;> cases c <;> cases d <;> cases f <;> rfl
theorem more_dat {e : Dat} {k : Cn} {con : ByteArray} (hok : (checkP p).2 = 0) (ho : e.cons = [k]) (hk : k.nm = con) (hf : k.fields = [unitTy]) :
    decide ((checkP (p.withDats v (p.dats ++ [e]))).2 = 0) = ((((!p.dats.any (datIs e.nm) && !(findCon p.dats con).isSome) && !decide (e.nm = con_)) && !decide (e.nm = (⟨#[]⟩ : ByteArray))) && !decide (con = (⟨#[]⟩ : ByteArray))) := by
  have h0 := checkP_ok.1 hok
  have hb : termS (p.withDats v (p.dats ++ [e])) [] (p.withDats v (p.dats ++ [e])).body = none := termS_ext (fun t b => oneB_dats t b) _ _ h0.2
  have hd := h0.1
  unfold declB at hd
  simp only [Bool.and_eq_true] at hd
  have h1 : decide ((checkP (p.withDats v (p.dats ++ [e]))).2 = 0) = declB (p.withDats v (p.dats ++ [e])) := by
    have hiff := @checkP_ok
    cases hq : declB _ with
    | true => exact decide_eq_true (hiff.2 ⟨hq, hb⟩)
    | false => exact decide_eq_false fun e => by have q := (hiff.1 e).1; rw [hq] at q; cases q
  rw [h1]
  unfold declB
  rw [show (p.withDats v (p.dats ++ [e])).effs = p.effs from rfl, show (p.withDats v (p.dats ++ [e])).dats = p.dats ++ [e] from rfl]
  rw [hd.1.1, effsB_ext (DatSub.app p.dats [e]) _ _ _ hd.1.2, datsB_app, datsB_ext (DatSub.app p.dats [e]) _ _ _ hd.2, con_mem]
  rw [show p.dats.any (datIs e.nm) = memB e.nm (p.dats.map Dat.nm) by rw [memB_map]; rfl]
  simp only [datsB, ho, consB, memB_con, List.nil_append, hk, hf, unitTy_known, List.map_cons, List.map_nil, List.all_cons, List.all_nil]
  generalize memB e.nm (p.dats.map Dat.nm) = a
  generalize memB con (p.dats.flatMap fun e => e.cons.map Cn.nm) = b
  generalize decide (e.nm = con_) = c
  generalize decide (e.nm = (⟨#[]⟩ : ByteArray)) = d
  generalize decide (con = (⟨#[]⟩ : ByteArray)) = f
  cases a <;> cases b <;> cases c <;> cases d <;> cases f <;> rfl
theorem PrSmall.withEffs {c : Nat} {e : Eff} (h : PrSmall p c) : PrSmall (p.withEffs v (p.effs ++ [e])) (c + effW e) := by
  have h1 := h.effs
  have h2 := h.dats
  have h3 := h.body
  refine ⟨?_, ?_, ?_⟩
  · show ((p.effs ++ [e]).map effW).sum ≤ _
    simp; omega
  · show (p.dats.map datW).sum ≤ _; omega
  · show wtT p.body ≤ _; omega
theorem PrSmall.withDats {c : Nat} {e : Dat} (h : PrSmall p c) : PrSmall (p.withDats v (p.dats ++ [e])) (c + datW e) := by
  have h1 := h.effs
  have h2 := h.dats
  have h3 := h.body
  refine ⟨?_, ?_, ?_⟩
  · show (p.effs.map effW).sum ≤ _; omega
  · show ((p.dats ++ [e]).map datW).sum ≤ _
    simp; omega
  · show wtT p.body ≤ _; omega
theorem PrSmall.len {c : Nat} (h : PrSmall p c) : p.effs.length ≤ c ∧ p.dats.length ≤ c := by
  have h1 := h.effs
  have h2 := h.dats
  have := sum_pos (l := p.effs) (f := effW) (fun x _ => by simp [effW])
  have := sum_pos (l := p.dats) (f := datW) (fun x _ => by simp [datW])
  omega
end
end Go.Proofs.Ytkclfcdppnlkbaa
