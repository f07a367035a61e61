/-
  Effects and data types behind one another: their words, what is read. Plain lemmas; no condition beyond those that stand in each statement.
-/
import Derived.Test.YtkjmjnddanhapaaN13
namespace Go.Proofs.Ytkjmjnddanhapaa
open Go.RowKit

section
variable {T : TypeId} {w w' : World} {u v v' : Value} {ss ys : List ByteArray}
theorem AppR.apart (hA : AppR w w' v v') (hu : OwnS T w u ss) (ap : Apart u v) : OwnS T w' u ss :=
  hA.own hu (by
    cases h : u.ownBlock with
    | none => exact .inl rfl
    | some g => exact .inr fun e => ap g h e.symm)
theorem Apart.app (ap : Apart v u) (hA : AppR w w' v v') (hu : OwnS T w u ss) : Apart v' u := by
  intro g hv hg
  rcases hA.blk with h1 | ⟨g', h1, h2⟩
  · exact ap g (by rw [← h1]; exact hv) hg
  · rw [h1] at hv; cases hv
    have := Own.lt hu hg; omega
end
def BoolsAt (w : World) (v : Value) (l : List Bool) : Prop := RowsAt w v 1 (l.map fun b => #[Value.bool b])
theorem BoolsAt.ok {w : World} {v : Value} {l : List Bool} (h : BoolsAt w v l) : SlOk v l.length := by have := RowsAt.ok h; simpa using this
theorem BoolsAt.get {w : World} {v : Value} {l : List Bool} (h : BoolsAt w v l) {i : Nat} {n : Bool} (hi : l[i]? = some n) : w.cell? ⟨vBlock v, vOff v + i * 1, none⟩ = some (.bool n) := by
  have := RowsAt.at_ h i #[.bool n] (by simp [hi]) 0 (.bool n) rfl
  simpa using this
/-- The ones that are so. -/
def eI (b : Bool) (l : List Bool) : Nat → List Nat
  | 0 => []
  | i + 1 => if l.getD i false = b then eI b l i ++ [i] else eI b l i
def eR (b : Bool) (l : List Bool) : Nat → Nat → List Nat
  | _, 0 => []
  | i, k + 1 => if l.getD i false = b then i :: eR b l (i + 1) k else eR b l (i + 1) k
theorem eR_snoc (b : Bool) (l : List Bool) : ∀ k i, eR b l i (k + 1) = if l.getD (i + k) false = b then eR b l i k ++ [i + k] else eR b l i k := by
  intro k
  induction k with
  | zero => intro i; rfl
  | succ k ih =>
    intro i
    rw [eR, ih (i + 1), show i + 1 + k = i + (k + 1) by omega]
    have e : eR b l i (k + 1) = if l.getD i false = b then i :: eR b l (i + 1) k else eR b l (i + 1) k := rfl
    rw [e]
    by_cases h1 : l.getD i false = b
    · by_cases h2 : l.getD (i + (k + 1)) false = b
      · simp only [if_pos h1, if_pos h2, List.cons_append]
      · simp only [if_pos h1, if_neg h2]
    · by_cases h2 : l.getD (i + (k + 1)) false = b
      · simp only [if_neg h1, if_pos h2]
      · simp only [if_neg h1, if_neg h2]
theorem eI_eq (b : Bool) (l : List Bool) : ∀ n, eI b l n = eR b l 0 n := by
  intro n
  induction n with
  | zero => rfl
  | succ n ih => rw [eI, eR_snoc, ih, Nat.zero_add]
theorem getD_b {l : List Bool} {i : Nat} {u : Bool} (h : l[i]? = some u) : l.getD i false = u := by rw [List.getD_eq_getElem?_getD, h]; rfl
def effD (i : Nat) (B : List UInt8) : List UInt8 := ((((((B ++ [101, 102, 102, 101, 99, 116, 32]) ++ ([68] ++ dgs i)) ++ [32, 123, 32, 111, 112]) ++ dgs i) ++ [32, 58, 32, 105, 110, 116, 32, 45, 62, 32]) ++ ([68] ++ dgs i)) ++ [32, 125, 32]
def datD (i : Nat) (B : List UInt8) : List UInt8 := (((B ++ [100, 97, 116, 97, 32]) ++ ([68] ++ dgs i)) ++ [32, 123, 32, 67]) ++ dgs i ++ [32, 98, 111, 111, 108, 32, 117, 110, 105, 116, 32, 125, 32]
def decS (l : List Bool) : Nat → List UInt8
  | 0 => []
  | i + 1 => bif l.getD i false then effD i (decS l i) else datD i (decS l i)
theorem decS_len (l : List Bool) : ∀ i, i ≤ 20 → (decS l i).length ≤ 200 * i := by
  intro i
  induction i with
  | zero => intro _; exact Nat.le_refl _
  | succ i ih =>
    intro h
    have h1 := dgs_len20 (n := i) (by omega); have h2 := ih (by omega)
    rw [decS]
    cases l.getD i false
    · simp only [cond_false, datD, List.length_append, List.length_cons, List.length_nil]; omega
    · simp only [cond_true, effD, List.length_append, List.length_cons, List.length_nil]; omega
def decP (l : List Bool) (i : Nat) (r : List UInt8) : List UInt8 :=
  bif l.getD i false then [101, 102, 102, 101, 99, 116] ++ (32 :: ((68 :: dgs i) ++ (32 :: ([123] ++ (32 :: ((111 :: 112 :: dgs i) ++ (32 :: ([58] ++ (32 :: ([105, 110, 116] ++ (32 :: ([45, 62] ++ (32 :: ((68 :: dgs i) ++ (32 :: ([125] ++ (32 :: r)))))))))))))))))
  else [100, 97, 116, 97] ++ (32 :: ((68 :: dgs i) ++ (32 :: ([123] ++ (32 :: ((67 :: dgs i) ++ (32 :: ([98, 111, 111, 108] ++ (32 :: ([117, 110, 105, 116] ++ (32 :: ([125] ++ (32 :: r)))))))))))))
def decL (l : List Bool) (r : List UInt8) : Nat → Nat → List UInt8
  | _, 0 => r
  | i, k + 1 => decP l i (decL l r (i + 1) k)
theorem decP_app (l : List Bool) (i : Nat) (B r : List UInt8) : (bif l.getD i false then effD i B else datD i B) ++ r = B ++ decP l i r := by
  unfold decP
  cases l.getD i false <;> simp [effD, datD]
theorem decL_snoc (l : List Bool) : ∀ k i r, decL l r i (k + 1) = decL l (decP l (i + k) r) i k := by
  intro k
  induction k with
  | zero => intro i r; rfl
  | succ k ih => intro i r; rw [decL, ih, decL, show i + 1 + k = i + (k + 1) by omega]
theorem decS_eq (l : List Bool) : ∀ n r, decS l n ++ r = decL l r 0 n := by
  intro n
  induction n with
  | zero => intro r; rfl
  | succ n ih => intro r; rw [decL_snoc, decS, decP_app, ih, Nat.zero_add]
-- ------------------------------------------------------------------ their words
inductive Dt (l : List Bool) (tl : List Tk) : Nat → Nat → List Tk → Prop
  | nil (i : Nat) : Dt l tl i 0 tl
  | e {i k : Nat} {r : List Tk} (a1 a2 a3 a4 a5 a6 a7 a8 a9 : Int) (hb : l.getD i false = true) (h : Dt l tl (i + 1) k r) : Dt l tl i (k + 1) (⟨4, [101, 102, 102, 101, 99, 116], 0, a1⟩ :: ⟨3, 68 :: dgs i, 0, a2⟩ :: ⟨5, [123], 0, a3⟩ :: ⟨2, 111 :: 112 :: dgs i, 0, a4⟩ :: ⟨5, [58], 0, a5⟩ :: ⟨4, [105, 110, 116], 0, a6⟩ :: ⟨5, [45, 62], 0, a7⟩ :: ⟨3, 68 :: dgs i, 0, a8⟩ :: ⟨5, [125], 0, a9⟩ :: r)
  | d {i k : Nat} {r : List Tk} (a1 a2 a3 a4 a5 a6 a7 : Int) (hb : l.getD i false = false) (h : Dt l tl (i + 1) k r) : Dt l tl i (k + 1) (⟨4, [100, 97, 116, 97], 0, a1⟩ :: ⟨3, 68 :: dgs i, 0, a2⟩ :: ⟨5, [123], 0, a3⟩ :: ⟨3, 67 :: dgs i, 0, a4⟩ :: ⟨4, [98, 111, 111, 108], 0, a5⟩ :: ⟨4, [117, 110, 105, 116], 0, a6⟩ :: ⟨5, [125], 0, a7⟩ :: r)
theorem Lx.id2' {r : List UInt8} {c d : UInt8} {n : Nat} {Q : List Tk → Prop} (hr : Lx r (fun ts => ∀ a, Q (⟨2, c :: d :: dgs n, 0, a⟩ :: ts))) (hc : letB c = true) (hd : letB d = true) (hk : largB c = false) (hn : n ≤ 9223372036854775807) (hs : Stop r) : Lx ((c :: d :: dgs n) ++ r) Q := by
  have h := name_word (w := d :: dgs n) (r := r) hc (fun e he => by rcases List.mem_cons.1 he with rfl | he; exact let_name hd; exact dig_name (dgs_dig n e he)) (by have := dgs_len20 hn; simp only [List.length_cons]; omega) hs
  obtain ⟨x, q, hx⟩ := List.exists_cons_of_ne_nil (dgs_ne n)
  rw [kw_dig (c := x) (by rw [hx]; simp) (dgs_dig n x (by rw [hx]; simp)), if_neg (by rw [hk]; decide)] at h
  exact Lx.word hr (blank_no (let_name hc)) (by simp) h
def endD (y z : Int) : List Tk := [⟨5, [40], 0, y⟩, ⟨5, [41], 0, z⟩]
theorem lx_endD : Lx [40, 41] (fun ts => ∃ y z, ts = endD y z) :=
  Lx.word (w := [40]) (r := [41]) (k := 5) (n := 0) (Lx.word (w := [41]) (r := []) (k := 5) (n := 0) (Lx.nil fun z y => ⟨y, z, rfl⟩) (by kernel_rfl) (by decide) (by kernel_rfl)) (by kernel_rfl) (by decide) (by kernel_rfl)
theorem lx_decL (l : List Bool) : ∀ (k i : Nat), i + k < 1000000 → Lx (decL l [40, 41] i k) (fun ts => ∃ y z, Dt l (endD y z) i k ts) := by
  intro k
  induction k with
  | zero => intro i _; exact lx_endD.mono fun ts h => by obtain ⟨y, z, rfl⟩ := h; exact ⟨y, z, .nil i⟩
  | succ k ih =>
    intro i hi
    rw [decL, decP]
    cases hb : l.getD i false with
    | true =>
      rw [cond_true]
      refine Lx.word (k := 4) (n := 0) (Lx.sp (Lx.id (k := 3) (Lx.sp (Lx.word (k := 5) (n := 0) (Lx.sp (Lx.id2' (Lx.sp (Lx.word (k := 5) (n := 0) (Lx.sp (Lx.word (k := 4) (n := 0) (Lx.sp (Lx.word (k := 5) (n := 0) (Lx.sp (Lx.id (k := 3) (Lx.sp (Lx.word (k := 5) (n := 0) (Lx.sp ((ih (i + 1) (by omega)).mono fun ts h a9 a8 a7 a6 a5 a4 a3 a2 a1 => ?_)) (by kernel_rfl) (by decide) (by kernel_rfl))) (by decide) (by decide) (by omega) (Stop.sp _))) (by kernel_rfl) (by decide) (by kernel_rfl))) (by kernel_rfl) (by decide) (by kernel_rfl))) (by kernel_rfl) (by decide) (by kernel_rfl))) (by decide) (by decide) (by decide) (by omega) (Stop.sp _))) (by kernel_rfl) (by decide) (by kernel_rfl))) (by decide) (by decide) (by omega) (Stop.sp _))) (by kernel_rfl) (by decide) (by kernel_rfl)
      obtain ⟨y, z, h⟩ := h
      exact ⟨y, z, .e a1 a2 a3 a4 a5 a6 a7 a8 a9 hb h⟩
    | false =>
      rw [cond_false]
      refine Lx.word (k := 4) (n := 0) (Lx.sp (Lx.id (k := 3) (Lx.sp (Lx.word (k := 5) (n := 0) (Lx.sp (Lx.id (k := 3) (Lx.sp (Lx.word (k := 4) (n := 0) (Lx.sp (Lx.word (k := 4) (n := 0) (Lx.sp (Lx.word (k := 5) (n := 0) (Lx.sp ((ih (i + 1) (by omega)).mono fun ts h a7 a6 a5 a4 a3 a2 a1 => ?_)) (by kernel_rfl) (by decide) (by kernel_rfl))) (by kernel_rfl) (by decide) (by kernel_rfl))) (by kernel_rfl) (by decide) (by kernel_rfl))) (by decide) (by decide) (by omega) (Stop.sp _))) (by kernel_rfl) (by decide) (by kernel_rfl))) (by decide) (by decide) (by omega) (Stop.sp _))) (by kernel_rfl) (by decide) (by kernel_rfl)
      obtain ⟨y, z, h⟩ := h
      exact ⟨y, z, .d a1 a2 a3 a4 a5 a6 a7 hb h⟩
-- ------------------------------------------------------------------ what is read
def mkE (i : Nat) : SEff := ⟨bs (68 :: dgs i), [⟨bs (111 :: 112 :: dgs i), ⟨1, E0B⟩, ⟨4, bs (68 :: dgs i)⟩⟩]⟩
def mkD (i : Nat) : SDat := ⟨bs (68 :: dgs i), [⟨bs (67 :: dgs i), [⟨2, E0B⟩, ⟨3, E0B⟩]⟩]⟩
theorem decl_ok {l : List Bool} {tl : List Tk} {i k : Nat} {ts : List Tk} (h : Dt l tl i k ts) (e : Int) (ht : isK e tl [effW0, datW0] = false) : ∀ (f : Nat) (xs : List SEff) (ds : List SDat), ts.length < f → declP e f xs ds ts = .ok (xs ++ (eR true l i k).map mkE, ds ++ (eR false l i k).map mkD) tl := by
  induction h with
  | nil i =>
    intro f xs ds hf
    obtain ⟨g, rfl⟩ : ∃ g, f = g + 1 := ⟨f - 1, by omega⟩
    rw [declP, ht, cond_false]; simp [eR]
  | @e i k r a1 a2 a3 a4 a5 a6 a7 a8 a9 hb h ih =>
    intro f xs ds hf
    obtain ⟨g, rfl⟩ : ∃ g, f = g + 1 := ⟨f - 1, by omega⟩
    have h1 : declP e (g + 1) xs ds (⟨4, [101, 102, 102, 101, 99, 116], 0, a1⟩ :: ⟨3, 68 :: dgs i, 0, a2⟩ :: ⟨5, [123], 0, a3⟩ :: ⟨2, 111 :: 112 :: dgs i, 0, a4⟩ :: ⟨5, [58], 0, a5⟩ :: ⟨4, [105, 110, 116], 0, a6⟩ :: ⟨5, [45, 62], 0, a7⟩ :: ⟨3, 68 :: dgs i, 0, a8⟩ :: ⟨5, [125], 0, a9⟩ :: r) = declP e g (xs ++ [mkE i]) ds r := by kernel_rfl
    rw [h1, ih g _ _ (by simp only [List.length_cons] at hf; omega), eR, eR, if_pos hb, if_neg (by rw [hb]; decide)]
    simp
  | @d i k r a1 a2 a3 a4 a5 a6 a7 hb h ih =>
    intro f xs ds hf
    obtain ⟨g, rfl⟩ : ∃ g, f = g + 1 := ⟨f - 1, by omega⟩
    have h1 : declP e (g + 1) xs ds (⟨4, [100, 97, 116, 97], 0, a1⟩ :: ⟨3, 68 :: dgs i, 0, a2⟩ :: ⟨5, [123], 0, a3⟩ :: ⟨3, 67 :: dgs i, 0, a4⟩ :: ⟨4, [98, 111, 111, 108], 0, a5⟩ :: ⟨4, [117, 110, 105, 116], 0, a6⟩ :: ⟨5, [125], 0, a7⟩ :: r) = declP e g xs (ds ++ [mkD i]) r := by kernel_rfl
    rw [h1, ih g _ _ (by simp only [List.length_cons] at hf; omega), eR, eR, if_neg (by rw [hb]; decide), if_pos hb]
    simp
theorem decl_parse (l : List Bool) {n : Nat} (hn : n ≤ 20) : ∃ a, parseR (decS l n ++ [40, 41]) = (some ⟨(eI true l n).map mkE, (eI false l n).map mkD, .mk 4 a E0B E0B 0 [] []⟩, 0, 0) := by
  have hlen := decS_len l n hn
  have hx := lx_decL l n 0 (by omega)
  rw [← decS_eq] at hx
  obtain ⟨hE, y, z, h⟩ := hx.parse (by simp only [List.length_append, List.length_cons, List.length_nil]; omega)
  refine ⟨y, parseR_ok (us := []) hE ?_ (by show ¬ 200 < dS (.mk 4 y E0B E0B 0 [] []); simp [dS, dSL, dSA])⟩
  generalize (((decS l n ++ [40, 41]).length : Nat) : Int) = L
  have h1 := decl_ok h L (by kernel_rfl) ((lexT (decS l n ++ [40, 41])).length + 1) [] [] (Nat.lt_succ_self _)
  obtain ⟨ex, hex⟩ : ∃ ex, ex = exprP L 200 := ⟨_, rfl⟩
  have h2 : exprP L 201 (endD y z) = .ok (.mk 4 y E0B E0B 0 [] []) [] := by
    rw [exprP, show exprP L 200 = ex from hex.symm]
    kernel_rfl
  simp only [programP, h1, PR.bind_ok, h2, eI_eq, List.nil_append]
  rfl
theorem effs_at {l : List Bool} {n : Nat} {p : Pr} {ds : List SDat} {x : ST} (h : shPr p = ⟨(eI true l n).map mkE, ds, x⟩) : p.effs.length = (eI true l n).length ∧ ∀ (i : Nat) (u : Eff) (j : Nat), p.effs[i]? = some u → (eI true l n)[i]? = some j → u.nm = bs (68 :: dgs j) ∧ u.ops.length = 1 ∧ ∀ (o : Op), u.ops[0]? = some o → o.nm = bs ([111, 112] ++ dgs j) ∧ o.arg.k = 1 ∧ o.res.nm = bs (68 :: dgs j) := by
  have he : p.effs.map shEff = (eI true l n).map mkE := congrArg SPr.effs h
  refine ⟨by have := congrArg List.length he; simpa using this, fun i u j hu hj => ?_⟩
  have h2 : shEff u = mkE j := by have := map_at he hu; rw [List.getElem?_map, hj] at this; exact (Option.some.inj this).symm
  have h3 : u.ops.map shOp = (mkE j).ops := congrArg SEff.ops h2
  refine ⟨congrArg SEff.nm h2, by have := congrArg List.length h3; simpa [mkE] using this, fun o ho => ?_⟩
  have h4 : shOp o = _ := (Option.some.inj (map_at h3 ho)).symm
  exact ⟨congrArg SOp.nm h4, congrArg (fun x : SOp => x.arg.k) h4, congrArg (fun x : SOp => x.res.nm) h4⟩
theorem dats_at {l : List Bool} {n : Nat} {p : Pr} {es : List SEff} {x : ST} (h : shPr p = ⟨es, (eI false l n).map mkD, x⟩) : p.dats.length = (eI false l n).length ∧ ∀ (i : Nat) (u : Dat) (j : Nat), p.dats[i]? = some u → (eI false l n)[i]? = some j → u.nm = bs (68 :: dgs j) ∧ u.cons.length = 1 ∧ ∀ (o : Cn), u.cons[0]? = some o → o.nm = bs ([67] ++ dgs j) ∧ o.fields.length = 2 ∧ ∀ (f : Ty), o.fields[1]? = some f → f.k = 3 := by
  have he : p.dats.map shDat = (eI false l n).map mkD := congrArg SPr.dats h
  refine ⟨by have := congrArg List.length he; simpa using this, fun i u j hu hj => ?_⟩
  have h2 : shDat u = mkD j := by have := map_at he hu; rw [List.getElem?_map, hj] at this; exact (Option.some.inj this).symm
  have h3 : u.cons.map shCn = (mkD j).cons := congrArg SDat.cons h2
  refine ⟨congrArg SDat.nm h2, by have := congrArg List.length h3; simpa [mkD] using this, fun o ho => ?_⟩
  have h4 : shCn o = _ := (Option.some.inj (map_at h3 ho)).symm
  have h5 : o.fields.map shTy = [⟨2, E0B⟩, ⟨3, E0B⟩] := congrArg SCn.fields h4
  refine ⟨congrArg SCn.nm h4, by have := congrArg List.length h5; simpa using this, fun f hf => ?_⟩
  have h6 : shTy f = _ := (Option.some.inj (map_at h5 hf)).symm
  exact congrArg STy.k h6
def dnm (j : Nat) : ByteArray := bs (([68] : List UInt8) ++ dgs j)
theorem eI_t {b : Bool} {l : List Bool} {i : Nat} (h : l.getD i false = b) : eI b l (i + 1) = eI b l i ++ [i] := by rw [eI, if_pos h]
theorem eI_f {b : Bool} {l : List Bool} {i : Nat} (h : l.getD i false = !b) : eI b l (i + 1) = eI b l i := by rw [eI, if_neg (by rw [h]; cases b <;> decide)]
theorem decS_t {l : List Bool} {i : Nat} (h : l.getD i false = true) : effD i (decS l i) = decS l (i + 1) := by rw [decS, h]; rfl
theorem decS_f {l : List Bool} {i : Nat} (h : l.getD i false = false) : datD i (decS l i) = decS l (i + 1) := by rw [decS, h]; rfl
theorem dnm_at {b : Bool} {l : List Bool} {i j n : Nat} (h : (eI b l i)[j]? = some n) : ((eI b l i).map dnm)[j]? = some (bs (([68] : List UInt8) ++ dgs n)) := by rw [List.getElem?_map, h]; rfl
theorem eI_mem {b : Bool} {l : List Bool} : ∀ {i : Nat} {n : Nat}, n ∈ eI b l i → n < i := by
  intro i
  induction i with
  | zero => intro n h; cases h
  | succ i ih =>
    intro n h
    rw [eI] at h
    split at h
    · rcases List.mem_append.1 h with h | h
      · have := ih h; omega
      · have := List.mem_singleton.1 h; omega
    · have := ih h; omega
theorem eI_lt {b : Bool} {l : List Bool} {i j n : Nat} (h : (eI b l i)[j]? = some n) : n < i := eI_mem (List.mem_of_getElem? h)
theorem eI_len (b : Bool) (l : List Bool) : ∀ i, (eI b l i).length ≤ i := by
  intro i
  induction i with
  | zero => exact Nat.le_refl _
  | succ i ih =>
    rw [eI]
    split
    · simp only [List.length_append, List.length_cons, List.length_nil]; omega
    · omega
def tf (k n : Nat) : Array Bool := (List.replicate k true ++ List.replicate (n - k) false).toArray
end Go.Proofs.Ytkjmjnddanhapaa
