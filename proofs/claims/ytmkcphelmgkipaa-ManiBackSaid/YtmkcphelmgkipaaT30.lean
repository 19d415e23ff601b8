import Derived.Test.YtmkcphelmgkipaaT29
set_option linter.unusedVariables false
set_option linter.unusedSimpArgs false
namespace Go.Proofs.Ytmkcphelmgkipaa
open Go.RowKit

/-! What the document's reading of a manifest comes to. -/

def qsnap (t : List UInt8) (st : Option Nat) : Snp × Option Nat :=
  (⟨str (rd [] (rtext 1000) t st).1, ((rd 0 (rint 1125899906842624) t (rd [] (rtext 1000) t st).2).1 : Nat), ((rd 0 (rint 1125899906842624) t (rd 0 (rint 1125899906842624) t (rd [] (rtext 1000) t st).2).2).1 : Nat)⟩,
   (rd 0 (rint 1125899906842624) t (rd 0 (rint 1125899906842624) t (rd [] (rtext 1000) t st).2).2).2)

def qsnaps (t : List UInt8) : Nat → Option Nat → List Snp × Option Nat
  | 0, st => ([], st)
  | k + 1, st => ((qsnaps t k st).1 ++ [(qsnap t (qsnaps t k st).2).1], (qsnap t (qsnaps t k st).2).2)

theorem qsnaps_length (t : List UInt8) (k : Nat) (st : Option Nat) : (qsnaps t k st).1.length = k := by
  induction k with
  | zero => rfl
  | succ k ih => simp [qsnaps, ih]

def q1 (t : List UInt8) := rd [] (rtext 1000) t (some 0)
def q2 (t : List UInt8) := rd 0 (rfixed 8) t (q1 t).2
def q3 (t : List UInt8) := rd 0 (rint 1125899906842624) t (q2 t).2
def q4 (t : List UInt8) := rd 0 (rint 1125899906842624) t (q3 t).2
def q5 (t : List UInt8) := rd [] (rtext 1000) t (q4 t).2
def q6 (t : List UInt8) := rd 0 (rint 1125899906842624) t (q5 t).2
def q7 (t : List UInt8) := rd 0 (rint 1125899906842624) t (q6 t).2

def qman (t : List UInt8) : Man := ⟨str (q1 t).1, ((q2 t).1 : Nat), ((q3 t).1 : Nat), ((q4 t).1 : Nat), str (q5 t).1, ((q6 t).1 : Nat), (qsnaps t (q7 t).1 (q7 t).2).1⟩
def qend (t : List UInt8) : Option Nat := (qsnaps t (q7 t).1 (q7 t).2).2

def qRes (T : List UInt8) : Man × Int := if qend T = some T.length ∧ chk (qman T) = 0 then (qman T, 0) else (Man.zero, 12)

/-- What the document's Decode answers. -/
def qdman (l : List UInt8) : Man × Int :=
  if (opened l).2 ≠ 0 then (Man.zero, (opened l).2)
  else if Lib.hasPrefix (opened l).1 [77, 65, 78, 50] = false then (Man.zero, 14)
  else qRes ((opened l).1.drop 4)

theorem qsnap_dead (t : List UInt8) : (qsnap t none).2 = none := rfl
theorem qsnaps_dead (t : List UInt8) (k : Nat) : (qsnaps t k none).2 = none := by
  induction k with
  | zero => rfl
  | succ k ih => show (qsnap t (qsnaps t k none).2).2 = none; rw [ih]; rfl

theorem qsnaps_more (t : List UInt8) (st : Option Nat) (k j : Nat) (h : (qsnaps t k st).2 = none) : (qsnaps t (k + j) st).2 = none := by
  induction j with
  | zero => exact h
  | succ j ih => show (qsnap t (qsnaps t (k + j) st).2).2 = none; rw [ih]; rfl

theorem rint_n {m : Nat} {r : List UInt8} {x n : Nat} (h : rint m r = some (x, n)) : 1 ≤ n ∧ n ≤ r.length ∧ x ≤ m ∧ rvar r = some (x, n) := by
  unfold rint at h
  cases hv : rvar r with
  | none => rw [hv] at h; cases h
  | some yk =>
    obtain ⟨y, k⟩ := yk
    rw [hv] at h
    simp only at h
    have := rvar_bd hv
    split at h
    · cases h; exact ⟨this.2.1, this.2.2, by assumption, rfl⟩
    · cases h

theorem rtext_pos {m : Nat} {r v : List UInt8} {n : Nat} (h : rtext m r = some (v, n)) : 1 ≤ n := by
  unfold rtext at h
  cases hr : rint m r with
  | none => rw [hr] at h; cases h
  | some yk =>
    obtain ⟨y, k⟩ := yk
    rw [hr] at h
    simp only at h
    have := rint_n hr
    split at h
    · cases h; omega
    · cases h

theorem rd_alive {α : Type} {z : α} {f : List UInt8 → Option (α × Nat)} {t : List UInt8} {st : Option Nat} {b : Nat} (h : (rd z f t st).2 = some b) :
    ∃ a v n, st = some a ∧ f (t.drop a) = some (v, n) ∧ b = a + n ∧ (rd z f t st).1 = v := by
  cases st with
  | none => cases h
  | some a =>
    cases hf : f (t.drop a) with
    | none => rw [rd_none hf] at h; cases h
    | some vn =>
      obtain ⟨v, n⟩ := vn
      rw [rd_some hf] at h ⊢
      cases h
      exact ⟨a, v, n, rfl, hf, rfl, rfl⟩

theorem qsnaps_alive (t : List UInt8) (st : Option Nat) (k b : Nat) (h : (qsnaps t k st).2 = some b) : ∃ a, st = some a ∧ a + k ≤ b := by
  induction k generalizing b with
  | zero => exact ⟨b, h, by omega⟩
  | succ k ih =>
    obtain ⟨a1, v1, n1, e1, f1, hb1, _⟩ := rd_alive (show (rd 0 (rint 1125899906842624) t _).2 = some b from h)
    obtain ⟨a2, v2, n2, e2, f2, hb2, _⟩ := rd_alive e1
    obtain ⟨a3, v3, n3, e3, f3, hb3, _⟩ := rd_alive e2
    obtain ⟨a, ha, hk⟩ := ih a3 e3
    have := (rint_n f1).1
    have := (rint_n f2).1
    have := rtext_pos f3
    exact ⟨a, ha, by omega⟩

theorem qsnaps_names (t : List UInt8) (k : Nat) (st : Option Nat) : ∀ x ∈ (qsnaps t k st).1, x.name.size ≤ t.length := by
  induction k with
  | zero => intro x hx; cases hx
  | succ k ih =>
    intro x hx
    rcases List.mem_append.mp hx with h | h
    · exact ih x h
    · rw [List.mem_singleton] at h
      subst h
      show (str _).size ≤ _
      rw [str_size]
      exact rd_text_le _ _ _

theorem snaps_of_rowE {w : World} {base : Nat} {e : TypeId} {v : Value} {l : List Snp} (h : w.ownsRow base e 3 v l.length (rowVals l)) : SnapsAt w v l := by
  rcases h.2 with ⟨rfl, h0⟩ | ⟨g, cap, cur, rfl, hb, hg, hc, hm, hs, ht⟩
  · refine ⟨none, 0, by rw [h0], fun i hi => by omega⟩
  · refine ⟨some ⟨g, 0, none⟩, cap, rfl, fun i hi => ⟨g, 0, rfl, ?_, ?_, ?_⟩⟩
    all_goals
      simp only [Nat.zero_add]
    · have := h.cells (g := g) rfl (i * 3 + 0) (.string (l.getD i Snp.zero).name) (by rw [rowVals_at l i 0 hi (by omega)]; rfl)
      rcases Nat.eq_zero_or_pos i with rfl | hp
      · simpa [Addr.add] using this
      · rw [Nat.add_zero] at this
        simpa [Addr.add, show i * 3 ≠ 0 by omega, show i ≠ 0 by omega] using this
    · have := h.cells (g := g) rfl (i * 3 + 1) (.int .i64 (l.getD i Snp.zero).seq) (by rw [rowVals_at l i 1 hi (by omega)]; rfl)
      simpa [Addr.add, Nat.add_assoc] using this
    · have := h.cells (g := g) rfl (i * 3 + 2) (.int .i64 (l.getD i Snp.zero).upto) (by rw [rowVals_at l i 2 hi (by omega)]; rfl)
      simpa [Addr.add, Nat.add_assoc] using this

theorem RSt.keeps {w w' : World} {o : Nat} {T : List UInt8} {st : Option Nat} (h : RSt w o T st) (hw : w'.heap[o]? = w.heap[o]?) : RSt w' o T st := by
  cases st with
  | none => obtain ⟨s, hs, hi⟩ := h; exact ⟨s, hs, hw.trans hi⟩
  | some a => exact ⟨h.1, hw.trans h.2⟩

theorem rnum_x (o : Nat) (T : List UInt8) (st : Option Nat) (p : Nat × Option Nat) (hp : p = rd 0 (rint 1125899906842624) T st) (w : World) (h : RSt w o T st) (hs : T.length ≤ 140737488351232) :
    Calls Try.prog 37 #[.pointer (some ⟨o, 0, none⟩)] w fun e w' => KeepsBut (fun k => k = o) w w' ∧ e = .returned (.int .i64 (p.1 : Nat)) ∧ RSt w' o T p.2 := by
  have := rnum_st o T st w h hs
  unfold RNumPost at this
  rw [← hp] at this
  exact this

theorem rtxt_x (o : Nat) (T : List UInt8) (st : Option Nat) (p : List UInt8 × Option Nat) (hp : p = rd [] (rtext 1000) T st) (w : World) (h : RSt w o T st) (hs : T.length ≤ 140737488351232) :
    Calls Try.prog 35 #[.pointer (some ⟨o, 0, none⟩)] w fun e w' => KeepsBut (fun k => k = o) w w' ∧ e = .returned (.string (str p.1)) ∧ RSt w' o T p.2 := by
  have := rtxt_st o T st w h hs
  unfold RTxtPost at this
  rw [← hp] at this
  exact this

theorem res9 {W : World} {b : Nat} {c : Int} {v0 v1 v2 v3 v4 v5 v6 : Value} {tmps : Array Value} (h : W.heap[b]? = some (.cells #[v0, v1, v2, v3, v4, v5, v6] 35 (0, 0)))
    (h2 : tmps[2]? = some (.pointer (some ⟨b, 0, none⟩))) (h3 : tmps[3]? = some (.int .i64 c)) :
    (results Try.f9 tmps).run Try.prog W = .ok (.tuple #[.agg #[v0, v1, v2, v3, v4, v5, v6], .int .i64 c]) W := by
  have k0 := cell_of_heap h 0
  have k1 := cell_of_heap h 1
  have k2 := cell_of_heap h 2
  have k3 := cell_of_heap h 3
  have k4 := cell_of_heap h 4
  have k5 := cell_of_heap h 5
  have k6 := cell_of_heap h 6
  simp only [List.getElem?_toArray, List.getElem?_cons_zero, List.getElem?_cons_succ] at k0 k1 k2 k3 k4 k5 k6
  simp [results, Try.results9, go_sem, h2, h3, k0, k1, k2, k3, k4, k5, k6]

theorem ropen_is (s : ByteArray) (hs : s.size ≤ 140737488351232) {A : List UInt8} {c : Int} (h : opened s.data.toList = (A, c)) (w : World) :
    Calls Try.prog 34 #[.string s] w fun e w' => e = .returned (.tuple #[.string (str A), .int .i64 c]) ∧ Below w.heap.size w w' := by
  have := ropen_any s w hs
  rw [h] at this
  exact this
end Go.Proofs.Ytmkcphelmgkipaa
