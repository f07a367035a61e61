/-
  A match, a handler, of so many arms: what is read. Plain lemmas; no condition beyond those that stand in each statement.
-/
import Derived.Test.YtkjmjnddanhapaaN15
namespace Go.Proofs.Ytkjmjnddanhapaa
open Go.RowKit

theorem kw_of {e k : Int} {t : Tk} {l : List Tk} (hk : t.k = k) (h4 : k ≠ 4) (h5 : k ≠ 5) (ss : List ByteArray) : isK e (t :: l) ss = false := by
  unfold isK nx; rw [List.headD_cons, hk]; simp [h4, h5]
theorem nokw_of {e k : Int} {t : Tk} {l : List Tk} (hk : t.k = k) (h4 : k ≠ 4) (h5 : k ≠ 5) : NoKw e (t :: l) := ⟨kw_of hk h4 h5 _, kw_of hk h4 h5 _, kw_of hk h4 h5 _, kw_of hk h4 h5 _, kw_of hk h4 h5 _, kw_of hk h4 h5 _⟩
theorem ex_numC {e : Int} {m : Nat} {t : List UInt8} {v a : Int} {us : List Tk} (h : Cl e us) : exprP e (m + 1) (⟨1, t, v, a⟩ :: us) = .ok (.mk 2 a E0B E0B v [] []) us := by
  rw [exprP, exB_assign (nokw_of (k := 1) rfl (by decide) (by decide))]
  refine atom_assign (by unfold atomP; rfl) ?_ h
  unfold preB'; rw [kw_of (k := 1) rfl (by decide) (by decide)]; rfl
theorem ex_varC {e : Int} {m : Nat} {t : List UInt8} {v a : Int} {us : List Tk} (h : Cl e us) : exprP e (m + 1) (⟨2, t, v, a⟩ :: us) = .ok (.mk 1 a (bs t) E0B 0 [] []) us := by
  rw [exprP, exB_assign (nokw_of (k := 2) rfl (by decide) (by decide))]
  refine atom_assign ?_ ?_ h
  · have h1 : isK e ((⟨2, t, v, a⟩ : Tk) :: us) [trB, faB] = false := kw_of (k := 2) rfl (by decide) (by decide) _
    unfold atomP; rw [h1]; rfl
  · unfold preB'; rw [kw_of (k := 2) rfl (by decide) (by decide)]; rfl
theorem cl_semi (e : Int) (s n : Int) (us : List Tk) : Cl e (⟨5, [59], n, s⟩ :: us) := ⟨by kernel_rfl, by kernel_rfl, by kernel_rfl, by kernel_rfl, by kernel_rfl⟩
theorem cl_close (e : Int) (s n : Int) (us : List Tk) : Cl e (⟨5, [125], n, s⟩ :: us) := ⟨by kernel_rfl, by kernel_rfl, by kernel_rfl, by kernel_rfl, by kernel_rfl⟩
theorem cl_open (e : Int) (s n : Int) (us : List Tk) : Cl e (⟨5, [123], n, s⟩ :: us) := ⟨by kernel_rfl, by kernel_rfl, by kernel_rfl, by kernel_rfl, by kernel_rfl⟩
theorem At'.cl {l : List Int} {z : Int} {i k : Nat} {r : List Tk} (h : At' l [⟨5, [125], 0, z⟩] (i + 1) k r) (e : Int) : Cl e r := by
  cases h with
  | nil => exact cl_close e z 0 []
  | cons s a b c hv h => unfold sepT; rw [if_pos (by omega)]; exact cl_semi e s 0 _
theorem Ct.cl {z : Int} {i k : Nat} {r : List Tk} (h : Ct [⟨5, [125], 0, z⟩] i k r) (e : Int) : Cl e r := by
  cases h with
  | nil => exact cl_close e z 0 []
  | cons s a b c d f h => exact cl_semi e s 0 _
theorem vars_all {e : Int} {t : Tk} {r : List Tk} (ht : t.k = 5) : ∀ (v : List Tk) (f : Nat) (acc : List ByteArray), (∀ u ∈ v, u.k = 2) → v.length < f → varsP e f acc (v ++ t :: r) = .ok (acc ++ v.map fun u => bs u.t) (t :: r) := by
  intro v
  induction v with
  | nil =>
    intro f acc _ hf
    obtain ⟨g, rfl⟩ : ∃ g, f = g + 1 := ⟨f - 1, by simp at hf; omega⟩
    have : kdK e (t :: r) [2] = false := by unfold kdK nx; rw [List.headD_cons, ht]; rfl
    rw [List.nil_append, varsP, this]; simp
  | cons u v ih =>
    intro f acc h hf
    obtain ⟨g, rfl⟩ : ∃ g, f = g + 1 := ⟨f - 1, by simp at hf; omega⟩
    have hu := h u List.mem_cons_self
    have : kdK e (u :: (v ++ t :: r)) [2] = true := by unfold kdK nx; rw [List.headD_cons, hu]; rfl
    rw [List.cons_append, varsP, this, cond_true]
    show varsP e g (acc ++ [bs u.t]) (v ++ t :: r) = _
    rw [ih g _ (fun x hx => h x (List.mem_cons_of_mem _ hx)) (by simp at hf; omega)]
    simp
/-- What they are. -/
inductive Ar (l : List Int) : Nat → Nat → List SA → Prop
  | nil (i : Nat) : Ar l i 0 []
  | cons {i k : Nat} {zs_ : List SA} {ns : List ByteArray} (c : Int) (hn : ns.length = wv l i) (h : Ar l (i + 1) k zs_) : Ar l i (k + 1) (.mk (bs (67 :: dgs i)) ns (.mk 2 c E0B E0B (i : Int) [] []) :: zs_)
inductive Cr : Nat → Nat → List SA → Prop
  | nil (i : Nat) : Cr i 0 []
  | cons {i k : Nat} {zs_ : List SA} (f : Int) (h : Cr (i + 1) k zs_) : Cr i (k + 1) (.mk (bs (111 :: 112 :: dgs i)) [bs [97], bs [107]] (.mk 2 f E0B E0B (i : Int) [] []) :: zs_)
theorem Ar.at {l : List Int} {i k : Nat} {zs_ : List SA} (h : Ar l i k zs_) : zs_.length = k ∧ dSA zs_ ≤ 1 ∧ ∀ j a, zs_[j]? = some a → ∃ ns c, a = SA.mk (bs (67 :: dgs (i + j))) ns (.mk 2 c E0B E0B ((i + j : Nat) : Int) [] []) ∧ ns.length = wv l (i + j) := by
  induction h with
  | nil i => exact ⟨rfl, Nat.zero_le _, fun j a h => by cases h⟩
  | @cons i k zs_ ns c hn h ih =>
    refine ⟨by simp [ih.1], ?_, fun j a ha => ?_⟩
    · have := ih.2.1
      simp only [dSA, dS, dSL]; omega
    · cases j with
      | zero => cases ha; exact ⟨ns, c, rfl, hn⟩
      | succ j => have := ih.2.2 j a ha; rwa [show i + 1 + j = i + (j + 1) by omega] at this
theorem Cr.at {i k : Nat} {zs_ : List SA} (h : Cr i k zs_) : zs_.length = k ∧ dSA zs_ ≤ 1 ∧ ∀ j a, zs_[j]? = some a → ∃ c, a = SA.mk (bs (111 :: 112 :: dgs (i + j))) [bs [97], bs [107]] (.mk 2 c E0B E0B ((i + j : Nat) : Int) [] []) := by
  induction h with
  | nil i => exact ⟨rfl, Nat.zero_le _, fun j a h => by cases h⟩
  | @cons i k zs_ f h ih =>
    refine ⟨by simp [ih.1], ?_, fun j a ha => ?_⟩
    · have := ih.2.1
      simp only [dSA, dS, dSL]; omega
    · cases j with
      | zero => cases ha; exact ⟨f, rfl⟩
      | succ j => have := ih.2.2 j a ha; rwa [show i + 1 + j = i + (j + 1) by omega] at this
theorem way_one {e : Int} {ex : List Tk → PR ST} (hn : ∀ (t : List UInt8) (v a : Int) (us : List Tk), Cl e us → ex (⟨1, t, v, a⟩ :: us) = .ok (.mk 2 a E0B E0B v [] []) us) {i : Nat} {l : List Int} {v r : List Tk} {a b c : Int} (acc : List SA) (hv : Vt (wv l i) v) (hc : Cl e r) :
    wayOne e (ex) acc (⟨3, 67 :: dgs i, 0, a⟩ :: (v ++ (⟨5, [45, 62], 0, b⟩ :: ⟨1, dgs i, (i : Int), c⟩ :: r))) = .ok (acc ++ [.mk (bs (67 :: dgs i)) (v.map fun u => bs u.t) (.mk 2 c E0B E0B (i : Int) [] [])]) r := by
  have h1 : wordP e 3 (⟨3, 67 :: dgs i, 0, a⟩ :: (v ++ (⟨5, [45, 62], 0, b⟩ :: ⟨1, dgs i, (i : Int), c⟩ :: r))) = .ok ⟨3, 67 :: dgs i, 0, a⟩ (v ++ (⟨5, [45, 62], 0, b⟩ :: ⟨1, dgs i, (i : Int), c⟩ :: r)) := rfl
  have h2 := vars_all (e := e) (t := ⟨5, [45, 62], 0, b⟩) (r := ⟨1, dgs i, (i : Int), c⟩ :: r) rfl v ((v ++ (⟨5, [45, 62], 0, b⟩ :: ⟨1, dgs i, (i : Int), c⟩ :: r)).length + 1) [] hv.k.2 (by simp only [List.length_append]; omega)
  have h3 : bodyP e (ex) (⟨5, [45, 62], 0, b⟩ :: ⟨1, dgs i, (i : Int), c⟩ :: r) = ex (⟨1, dgs i, (i : Int), c⟩ :: r) := by kernel_rfl
  simp only [wayOne, wayP, h1, PR.bind_ok, h2, h3, hn _ _ _ _ hc, List.nil_append]
theorem ways_ok {l : List Int} {z : Int} {i k : Nat} {ts : List Tk} (h : At' l [⟨5, [125], 0, z⟩] i k ts) (e : Int) {ex : List Tk → PR ST} (hn : ∀ (t : List UInt8) (v a : Int) (us : List Tk), Cl e us → ex (⟨1, t, v, a⟩ :: us) = .ok (.mk 2 a E0B E0B v [] []) us) : ∀ (f : Nat) (acc : List SA), ts.length < f → ∃ zs_, Ar l i k zs_ ∧ listL e smB cB (wayOne e (ex)) f (decide (i = 0)) acc ts = .ok (acc ++ zs_) [] := by
  induction h with
  | nil i =>
    intro f acc hf
    obtain ⟨g, rfl⟩ : ∃ g, f = g + 1 := ⟨f - 1, by simp at hf; omega⟩
    refine ⟨[], .nil i, ?_⟩
    rw [List.append_nil]
    generalize decide (i = 0) = first
    kernel_rfl
  | @cons i k v r s a b c hv h ih =>
    intro f acc hf
    obtain ⟨g, rfl⟩ : ∃ g, f = g + 1 := ⟨f - 1, by simp at hf; omega⟩
    have hl : r.length < g := by simp only [List.length_append, List.length_cons] at hf; omega
    obtain ⟨zs_, h1, h2⟩ := ih g (acc ++ [.mk (bs (67 :: dgs i)) (v.map fun u => bs u.t) (.mk 2 c E0B E0B (i : Int) [] [])]) hl
    refine ⟨_, .cons (ns := v.map fun u => bs u.t) c (by rw [List.length_map]; exact hv.k.1) h1, ?_⟩
    rw [decide_eq_false (by omega)] at h2
    have hw := way_one (e := e) hn (a := a) (b := b) (c := c) acc hv (h.cl e)
    by_cases h0 : 0 < i
    · have hk : isK e (sepT i s ++ (⟨3, 67 :: dgs i, 0, a⟩ :: (v ++ (⟨5, [45, 62], 0, b⟩ :: ⟨1, dgs i, (i : Int), c⟩ :: r)))) [cB] = false := by unfold sepT; rw [if_pos h0]; kernel_rfl
      have ht : textP e [smB] (sepT i s ++ (⟨3, 67 :: dgs i, 0, a⟩ :: (v ++ (⟨5, [45, 62], 0, b⟩ :: ⟨1, dgs i, (i : Int), c⟩ :: r)))) = .ok () (⟨3, 67 :: dgs i, 0, a⟩ :: (v ++ (⟨5, [45, 62], 0, b⟩ :: ⟨1, dgs i, (i : Int), c⟩ :: r))) := by unfold sepT; rw [if_pos h0]; kernel_rfl
      rw [listL, hk, decide_eq_false (by omega)]
      simp only [cond_false, ht, PR.bind_ok, hw, h2, List.append_assoc, List.cons_append, List.nil_append]
    · have hs : sepT i s = [] := by unfold sepT; rw [if_neg h0]
      have hk : isK e (⟨3, 67 :: dgs i, 0, a⟩ :: (v ++ (⟨5, [45, 62], 0, b⟩ :: ⟨1, dgs i, (i : Int), c⟩ :: r))) [cB] = false := kw_of (k := 3) rfl (by decide) (by decide) _
      rw [hs, List.nil_append, listL, hk, decide_eq_true (by omega)]
      simp only [cond_false, cond_true, PR.bind_ok, hw, h2, List.append_assoc, List.cons_append, List.nil_append]
theorem clauses_ok {z : Int} {i k : Nat} {ts : List Tk} (h : Ct [⟨5, [125], 0, z⟩] i k ts) (e : Int) {ex : List Tk → PR ST} (hn : ∀ (t : List UInt8) (v a : Int) (us : List Tk), Cl e us → ex (⟨1, t, v, a⟩ :: us) = .ok (.mk 2 a E0B E0B v [] []) us) : ∀ (f : Nat) (acc : List SA), ts.length < f → ∃ zs_, Cr i k zs_ ∧ clausesP e (ex) f acc ts = .ok (acc ++ zs_) [⟨5, [125], 0, z⟩] := by
  induction h with
  | nil i =>
    intro f acc hf
    obtain ⟨g, rfl⟩ : ∃ g, f = g + 1 := ⟨f - 1, by simp at hf; omega⟩
    exact ⟨[], .nil i, by rw [List.append_nil]; kernel_rfl⟩
  | @cons i k r s a b c d x h ih =>
    intro f acc hf
    obtain ⟨g, rfl⟩ : ∃ g, f = g + 1 := ⟨f - 1, by simp at hf; omega⟩
    obtain ⟨zs_, h1, h2⟩ := ih g (acc ++ [.mk (bs (111 :: 112 :: dgs i)) [bs [97], bs [107]] (.mk 2 x E0B E0B (i : Int) [] [])]) (by simp only [List.length_cons] at hf; omega)
    refine ⟨_, .cons x h1, ?_⟩
    have h3 : clauseP e (ex) false (⟨2, 111 :: 112 :: dgs i, 0, a⟩ :: ⟨2, [97], 0, b⟩ :: ⟨2, [107], 0, c⟩ :: ⟨5, [45, 62], 0, d⟩ :: ⟨1, dgs i, (i : Int), x⟩ :: r) = (ex (⟨1, dgs i, (i : Int), x⟩ :: r)).bind fun t ts => .ok (.mk (bs (111 :: 112 :: dgs i)) [bs [97], bs [107]] t) ts := by kernel_rfl
    rw [hn _ _ _ _ (h.cl e)] at h3
    have hk : isK e (⟨5, [59], 0, s⟩ :: ⟨2, 111 :: 112 :: dgs i, 0, a⟩ :: ⟨2, [97], 0, b⟩ :: ⟨2, [107], 0, c⟩ :: ⟨5, [45, 62], 0, d⟩ :: ⟨1, dgs i, (i : Int), x⟩ :: r) [smB] = true := by kernel_rfl
    rw [clausesP, hk]
    simp only [cond_true, List.tail_cons, h3, PR.bind_ok, h2, List.append_assoc, List.cons_append, List.nil_append]
theorem prog_one {e : Int} {t : Tk} {r : List Tk} {x : ST} (h1 : isK e (t :: r) [effW0, datW0] = false) (h : exprP e 201 (t :: r) = .ok x []) : programP e (t :: r) = .ok ⟨[], [], x⟩ [] := by
  simp only [programP, declP, h1, cond_false, PR.bind_ok, h]; rfl
theorem arms_parse (l : List Int) {n : Nat} (hn : n < 61) : ∃ a b ks zs_, parseR (armS l n ++ [32, 125]) = (some ⟨[], [], .mk 12 a E0B E0B b ks zs_⟩, 0, 0) ∧ Ar l 0 n zs_ := by
  have hlen := armS_len l n (by omega)
  have hx : Lx (armS l n ++ [32, 125]) (fun ts => ∃ z a b c r, At' l [⟨5, [125], 0, z⟩] 0 n r ∧ ts = ⟨4, [109, 97, 116, 99, 104], 0, a⟩ :: ⟨2, [120], 0, b⟩ :: ⟨5, [123], 0, c⟩ :: r) := by
    have e : armS l n ++ [32, 125] = [109, 97, 116, 99, 104] ++ (32 :: ([120] ++ (32 :: ([123] ++ (armL l 0 n ++ endS))))) := by rw [armS_eq]; simp
    rw [e]
    refine Lx.word (k := 4) (n := 0) (Lx.sp (Lx.word (k := 2) (n := 0) (Lx.sp (Lx.word (k := 5) (n := 0) ((lx_armL l n 0 (by omega)).mono fun ts h c b a => ?_) (by kernel_rfl) (by decide) (by kernel_rfl))) (by kernel_rfl) (by decide) (by kernel_rfl))) (by kernel_rfl) (by decide) (by kernel_rfl)
    obtain ⟨z, h⟩ := h
    exact ⟨z, a, b, c, ts, h, rfl⟩
  obtain ⟨hE, z, a, b, c, r, h, ht⟩ := hx.parse (by simp only [List.length_append, List.length_cons, List.length_nil]; omega)
  generalize hL : (((armS l n ++ [32, 125]).length : Nat) : Int) = L
  obtain ⟨ex, hex⟩ : ∃ ex, ex = exprP L 200 := ⟨_, rfl⟩
  have hnum : ∀ (t : List UInt8) (v a : Int) (us : List Tk), Cl L us → ex (⟨1, t, v, a⟩ :: us) = .ok (.mk 2 a E0B E0B v [] []) us := fun t v a us h => by rw [hex]; exact ex_numC (m := 199) h
  have hvar : ∀ (t : List UInt8) (v a : Int) (us : List Tk), Cl L us → ex (⟨2, t, v, a⟩ :: us) = .ok (.mk 1 a (bs t) E0B 0 [] []) us := fun t v a us h => by rw [hex]; exact ex_varC (m := 199) h
  obtain ⟨zs_, h1, h2⟩ := ways_ok h L hnum (r.length + 1) [] (Nat.lt_succ_self _)
  refine ⟨a, 0, [.mk 1 b (bs [120]) E0B 0 [] []], zs_, parseR_ok (us := []) hE ?_ ?_, h1⟩
  · rw [hL, ht]
    refine prog_one (by kernel_rfl) ?_
    have h3 : exprP L 201 (⟨4, [109, 97, 116, 99, 104], 0, a⟩ :: ⟨2, [120], 0, b⟩ :: ⟨5, [123], 0, c⟩ :: r) = ((ex (⟨2, [120], 0, b⟩ :: ⟨5, [123], 0, c⟩ :: r)).bind fun x ts => .ok [x] ts).bind fun ks us => (listP L oB smB cB (wayOne L ex) [] us).bind fun zs us => .ok (.mk 12 a E0B E0B 0 ks zs) us := by
      rw [exprP, show exprP L 200 = ex from hex.symm]
      kernel_rfl
    have h4 : listP L oB smB cB (wayOne L ex) [] (⟨5, [123], 0, c⟩ :: r) = listL L smB cB (wayOne L ex) (r.length + 1) true [] r := by
      kernel_rfl
    rw [show decide (0 = 0) = true from rfl] at h2
    rw [h3, hvar _ _ _ _ (cl_open L c 0 r)]
    simp only [PR.bind_ok]
    rw [h4, h2]; rfl
  · show ¬ 200 < dS _
    have := h1.at.2.1
    simp only [dS, dSL, dSA]; omega
theorem cls_parse {n : Nat} (hn : n < 61) : ∃ a b nm ks ra zs_, parseR (clS n ++ [32, 125]) = (some ⟨[], [], .mk 14 a nm E0B b ks (ra :: zs_)⟩, 0, 0) ∧ Cr 0 n zs_ ∧ ∃ ns x, ra = .mk retB ns x := by
  have hlen := clS_len n (by omega)
  have hx : Lx (clS n ++ [32, 125]) (fun ts => ∃ z a b c d f g q r, Ct [⟨5, [125], 0, z⟩] 0 n r ∧ ∃ u, ts = ⟨4, [104, 97, 110, 100, 108, 101], 0, a⟩ :: ⟨3, [69], 0, b⟩ :: ⟨2, [120], 0, c⟩ :: ⟨5, [123], 0, d⟩ :: ⟨4, [114, 101, 116, 117, 114, 110], 0, f⟩ :: ⟨2, [121], 0, g⟩ :: ⟨5, [45, 62], 0, q⟩ :: ⟨2, [121], 0, u⟩ :: r) := by
    have e : clS n ++ [32, 125] = [104, 97, 110, 100, 108, 101] ++ (32 :: ([69] ++ (32 :: ([120] ++ (32 :: ([123] ++ (32 :: ([114, 101, 116, 117, 114, 110] ++ (32 :: ([121] ++ (32 :: ([45, 62] ++ (32 :: ([121] ++ (clL 0 n ++ endS))))))))))))))) := by rw [clS_eq]; simp
    rw [e]
    have hst := stop_clL 0 n
    have hy : wordR ([121] ++ (clL 0 n ++ endS)) = ⟨⟨2, [121], 0, 0⟩, [121].length, true⟩ := by
      have := name_word (c := 121) (w := []) (r := clL 0 n ++ endS) (by decide) (by simp) (by decide) hst
      rw [this]
      have h1 : largB 121 = false := by decide
      have h2 : kwB [121] = false := by kernel_rfl
      rw [h1, h2]; rfl
    refine Lx.word (k := 4) (n := 0) (Lx.sp (Lx.word (k := 3) (n := 0) (Lx.sp (Lx.word (k := 2) (n := 0) (Lx.sp (Lx.word (k := 5) (n := 0) (Lx.sp (Lx.word (k := 4) (n := 0) (Lx.sp (Lx.word (k := 2) (n := 0) (Lx.sp (Lx.word (k := 5) (n := 0) (Lx.sp (Lx.word (k := 2) (n := 0) ((lx_clL n 0 (by omega)).mono fun ts h u q g f d c b a => ?_) (by kernel_rfl) (by decide) hy)) (by kernel_rfl) (by decide) (by kernel_rfl))) (by kernel_rfl) (by decide) (by kernel_rfl))) (by kernel_rfl) (by decide) (by kernel_rfl))) (by kernel_rfl) (by decide) (by kernel_rfl))) (by kernel_rfl) (by decide) (by kernel_rfl))) (by kernel_rfl) (by decide) (by kernel_rfl))) (by kernel_rfl) (by decide) (by kernel_rfl)
    obtain ⟨z, h⟩ := h
    exact ⟨z, a, b, c, d, f, g, q, ts, h, u, rfl⟩
  obtain ⟨hE, z, a, b, c, d, f, g, q, r, h, u, ht⟩ := hx.parse (by simp only [List.length_append, List.length_cons, List.length_nil]; omega)
  generalize hL : (((clS n ++ [32, 125]).length : Nat) : Int) = L
  obtain ⟨ex, hex⟩ : ∃ ex, ex = exprP L 200 := ⟨_, rfl⟩
  have hnum : ∀ (t : List UInt8) (v a : Int) (us : List Tk), Cl L us → ex (⟨1, t, v, a⟩ :: us) = .ok (.mk 2 a E0B E0B v [] []) us := fun t v a us h => by rw [hex]; exact ex_numC (m := 199) h
  have hvar : ∀ (t : List UInt8) (v a : Int) (us : List Tk), Cl L us → ex (⟨2, t, v, a⟩ :: us) = .ok (.mk 1 a (bs t) E0B 0 [] []) us := fun t v a us h => by rw [hex]; exact ex_varC (m := 199) h
  obtain ⟨zs_, h1, h2⟩ := clauses_ok h L hnum (r.length + 1) [.mk retB [bs [121]] (.mk 1 u (bs [121]) E0B 0 [] [])] (Nat.lt_succ_self _)
  refine ⟨a, 0, bs [69], [.mk 1 c (bs [120]) E0B 0 [] []], .mk retB [bs [121]] (.mk 1 u (bs [121]) E0B 0 [] []), zs_, parseR_ok (us := []) hE ?_ ?_, h1, _, _, rfl⟩
  · rw [hL, ht]
    refine prog_one (by kernel_rfl) ?_
    have h3 : exprP L 201 (⟨4, [104, 97, 110, 100, 108, 101], 0, a⟩ :: ⟨3, [69], 0, b⟩ :: ⟨2, [120], 0, c⟩ :: ⟨5, [123], 0, d⟩ :: ⟨4, [114, 101, 116, 117, 114, 110], 0, f⟩ :: ⟨2, [121], 0, g⟩ :: ⟨5, [45, 62], 0, q⟩ :: ⟨2, [121], 0, u⟩ :: r) =
        (ex (⟨2, [120], 0, c⟩ :: ⟨5, [123], 0, d⟩ :: ⟨4, [114, 101, 116, 117, 114, 110], 0, f⟩ :: ⟨2, [121], 0, g⟩ :: ⟨5, [45, 62], 0, q⟩ :: ⟨2, [121], 0, u⟩ :: r)).bind fun x us => (textP L [oB] us).bind fun _ us => (clauseP L ex true us).bind fun a_ us =>
    (clausesP L ex (us.length + 1) [a_] us).bind fun zs us => (textP L [cB] us).bind fun _ us => .ok (.mk 14 a (bs [69]) E0B 0 [x] zs) us := by
      rw [exprP, show exprP L 200 = ex from hex.symm]
      kernel_rfl
    have h4 : textP L [oB] (⟨5, [123], 0, d⟩ :: ⟨4, [114, 101, 116, 117, 114, 110], 0, f⟩ :: ⟨2, [121], 0, g⟩ :: ⟨5, [45, 62], 0, q⟩ :: ⟨2, [121], 0, u⟩ :: r) = .ok () (⟨4, [114, 101, 116, 117, 114, 110], 0, f⟩ :: ⟨2, [121], 0, g⟩ :: ⟨5, [45, 62], 0, q⟩ :: ⟨2, [121], 0, u⟩ :: r) := by kernel_rfl
    have h5 : clauseP L ex true (⟨4, [114, 101, 116, 117, 114, 110], 0, f⟩ :: ⟨2, [121], 0, g⟩ :: ⟨5, [45, 62], 0, q⟩ :: ⟨2, [121], 0, u⟩ :: r) = (ex (⟨2, [121], 0, u⟩ :: r)).bind fun b ts => .ok (.mk retB [bs [121]] b) ts := by
      kernel_rfl
    have h6 : textP L [cB] [⟨5, [125], 0, z⟩] = .ok () [] := by kernel_rfl
    rw [h3, hvar _ _ _ _ (cl_open L d 0 _)]
    simp only [PR.bind_ok, h4, h5, hvar _ _ _ _ (h.cl L), h2, h6]
    rfl
  · show ¬ 200 < dS _
    have := h1.at.2.1
    simp only [dS, dSL, dSA]; omega
end Go.Proofs.Ytkjmjnddanhapaa
