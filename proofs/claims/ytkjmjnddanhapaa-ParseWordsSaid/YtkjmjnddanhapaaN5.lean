/-
  Terms made of terms: what lies where; what stands for an expression one deeper. Plain lemmas; no condition beyond those that stand in each statement.
-/
import Derived.Test.YtkjmjnddanhapaaU3
namespace Go.Proofs.Ytkjmjnddanhapaa
open Go.RowKit

theorem mem2 {α : Type} {Q : α → Prop} {a b : α} (h1 : Q a) (h2 : Q b) : ∀ u ∈ [a, b], Q u := by
  intro u hu; simp at hu; rcases hu with rfl | rfl <;> assumption
theorem rows_tm {w : World} {b m : Nat} {ks : List Tm} {T : TypeId} {fr : Nat × Nat} (h : w.heap[b]? = some (.cells ((ks.map Tm.cs).flatMap (·.toList)).toArray T fr)) (hk : ∀ u ∈ ks, TmOk w u) (hm : m = ks.length) (hl : m ≤ 9223372036854775807) :
    RowsAt w (.slice (some ⟨b, 0, none⟩) m m) 21 (ks.map Tm.cs) :=
  RowsAt.own (rows := ks.map Tm.cs) h (by intro r hr; obtain ⟨u, hu, rfl⟩ := List.mem_map.1 hr; exact (hk u hu).size) (by simpa using hm) (Nat.le_refl _) hl
section
variable {M : List (Option Nat)} {w : World}
theorem Xs.mkT {k a : Int} {nm pm : ByteArray} {n : Int} {kv av : Value} {ks : List Tm} {ms : List Am} (hk : Xs kTm M w ks) (ha : Xs kAm M w ms) (h1 : RowsAt w kv 21 (ks.map Tm.cs)) (h2 : RowsAt w av 23 (ms.map Am.cs)) (hkv : ks ≠ [] → some (vBlock kv) ∉ M) (hav : ms ≠ [] → some (vBlock av) ∉ M) :
    Xs kTm M w [tmA k a nm pm n kv ks av ms] := fun u hu => by
  obtain rfl := List.mem_singleton.1 hu
  refine ⟨tmA_ok h1 (Xs.ok hk) h2 (Xs.ok ha), fun b hb => ?_⟩
  have hb : tmBlk (tmA k a nm pm n kv ks av ms) b := hb
  rw [tmA, tmBlk] at hb
  rcases hb with ⟨h, rfl⟩ | ⟨h, rfl⟩ | h | h
  · exact hkv h
  · exact hav h
  · obtain ⟨u, hu, hb⟩ := tmBlkL_iff.1 h; exact (hk u hu).2 b hb
  · obtain ⟨u, hu, hb⟩ := amBlkL_iff.1 h; exact (ha u hu).2 b hb
theorem Xs.cons {α : Type} {K : Kd α} {u : α} {l : List α} (h : Xs K M w [u]) (k : Xs K M w l) : Xs K M w (u :: l) := Xs.append (l := [u]) h k
theorem notin_lt {b : Nat} {s : Nat} (hM : MLt s M) (hb : s ≤ b) : some b ∉ M := fun h => by have := hM b h; omega
end
/-- What stands for the expressions one deeper. -/
def ExC (en dp : Int) (ex : List Tk → PR ST) : Prop := ∀ (wB : World) (b0 : Nat) (ts : List Tk) (v : Value) (w : World), Below wB.heap.size wB w → (∀ k, k = b0 → wB.heap.size ≤ k) → RowsAt wB v 4 (ts.map Tk.cs) → w.heap[b0]? = some (.cells #[v, .int .i64 en, .int .i64 dp] 81) → ts.length ≤ 100000000 →
  Calls Try.prog 46 ([.pointer (some ⟨b0, 0, none⟩)] : List Value).toArray w fun e w' => RetP (fun k => k = b0) wB b0 en dp (okT w) (ex ts) w e w'
/-- A side: what a function value reads. -/
def SideC (en dp : Int) (c : FuncId) (sd : List Tk → PR ST) : Prop := ∀ (wB : World) (b0 : Nat) (ts : List Tk) (v : Value) (w : World), Below wB.heap.size wB w → (∀ k, k = b0 → wB.heap.size ≤ k) → RowsAt wB v 4 (ts.map Tk.cs) → w.heap[b0]? = some (.cells #[v, .int .i64 en, .int .i64 dp] 81) → ts.length ≤ 100000000 →
  Calls Try.prog c ([.pointer (some ⟨b0, 0, none⟩)] : List Value).toArray w fun e w' => RetP (fun k => k = b0) wB b0 en dp (okT w) (sd ts) w e w'
theorem OwnS.neB {T T' : TypeId} {w : World} {v : Value} {ss : List ByteArray} {b0 : Nat} {C : Array Value} {fr : Nat × Nat} (h : OwnS T w v ss) (hb : w.heap[b0]? = some (.cells C T' fr)) (hT : Nat.beq T' T = false) : ss ≠ [] → vBlock v ≠ b0 := fun hn e => by
  have := Own.vb h (fun e => hn (List.eq_nil_of_length_eq_zero e))
  rw [e] at this
  exact h.neT hb hT this.symm
theorem MT.atEq {w : World} {k a a' : Int} {nm pm : ByteArray} {n : Int} {xs : List ST} {ys : List SA} {t : Tm} (h : MT w (.mk k a nm pm n xs ys) t) (e : a = a') : MT w (.mk k a' nm pm n xs ys) t := e ▸ h
theorem splice_arm {z : Array Value} {a b : Value} {cs : Array Value} (hz : z.size = 23) (hc : cs.size = 21) (h0 : z[0]? = some a) (h1 : z[1]? = some b) : splice z 2 cs = #[a, b] ++ cs := by
  apply Array.ext'
  unfold splice
  have e : z.toList.take 2 = [a, b] := by
    have a0 : z.toList[0]? = some a := by simpa using h0
    have a1 : z.toList[1]? = some b := by simpa using h1
    rw [List.take_add_one, List.take_add_one, List.take_zero, a0, a1]; rfl
  have e2 : z.toList.drop (2 + cs.size) = [] := List.drop_eq_nil_of_le (by rw [Array.length_toList]; omega)
  simp [e, e2]
def zeroTm : Tm := .mk #[.int .i64 0, .int .i64 0, .string (⟨#[]⟩ : ByteArray), .string (⟨#[]⟩ : ByteArray), .int .i64 0, .slice none 0 0, .slice none 0 0, .int .i64 0, .string (⟨#[]⟩ : ByteArray), .int .i64 0, .slice none 0 0, .slice none 0 0, .int .i64 0, .slice none 0 0, .int .i64 0, .int .i64 0, .string (⟨#[]⟩ : ByteArray), .int .i64 0, .slice none 0 0, .slice none 0 0, .int .i64 0] 0 0 E0B E0B 0 (.slice none 0 0) (.slice none 0 0) [] []
def zeroAm : Am := .mk #[.string (⟨#[]⟩ : ByteArray), .slice none 0 0, .int .i64 0, .int .i64 0, .string (⟨#[]⟩ : ByteArray), .string (⟨#[]⟩ : ByteArray), .int .i64 0, .slice none 0 0, .slice none 0 0, .int .i64 0, .string (⟨#[]⟩ : ByteArray), .int .i64 0, .slice none 0 0, .slice none 0 0, .int .i64 0, .slice none 0 0, .int .i64 0, .int .i64 0, .string (⟨#[]⟩ : ByteArray), .int .i64 0, .slice none 0 0, .slice none 0 0, .int .i64 0] E0B (.slice none 0 0) [] zeroTm
theorem zeroTm_ok (w : World) : TmOk w zeroTm := .mk ⟨rfl, by simp [zeroTm, Tm.cs, Value.oneCell'], rfl, rfl, rfl, rfl, rfl, rfl, rfl, RowsAt.nil w 21, RowsAt.nil w 23⟩ (fun _ h => by cases h) (fun _ h => by cases h)
theorem zeroAm_ok (w : World) : AmOk w zeroAm := .mk ⟨rfl, by simp [zeroAm, Am.cs, Value.oneCell'], rfl, rfl, StrsAt.nil w, rfl⟩ (zeroTm_ok w)
theorem listOne_eq : listOne = @listOne' ST := rfl
theorem wayOne_eq (e : Int) (ex : List Tk → PR ST) : wayOne e ex = listOne' (wayP e ex) := rfl
theorem NI.nil (b : Nat) : some b ∉ ([] : List (Option Nat)) := fun h => by cases h
theorem NI.cons {a b : Nat} {M : List (Option Nat)} (h : a ≠ b) (t : some b ∉ M) : some b ∉ some a :: M := fun hm => by
  rcases List.mem_cons.1 hm with e | e
  · exact h (Option.some.inj e).symm
  · exact t e
end Go.Proofs.Ytkjmjnddanhapaa
