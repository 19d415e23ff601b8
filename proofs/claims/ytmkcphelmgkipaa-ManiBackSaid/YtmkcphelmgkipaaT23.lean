import Derived.Test.YtmkcphelmgkipaaT22
import Derived.Test.YtmkcphelmgkipaaT17
set_option linter.unusedVariables false
set_option linter.unusedSimpArgs false
namespace Go.Proofs.Ytmkcphelmgkipaa
open Go.RowKit

/-! What the reading of a manifest comes to. -/

def rsnap (t : List UInt8) (st : Option Nat) : Snp × Option Nat :=
  (⟨str (rd [] (rtext 64) t st).1, ((rd 0 (rint 1099511627776) t (rd [] (rtext 64) t st).2).1 : Nat), ((rd 0 (rint 1099511627776) t (rd 0 (rint 1099511627776) t (rd [] (rtext 64) t st).2).2).1 : Nat)⟩,
   (rd 0 (rint 1099511627776) t (rd 0 (rint 1099511627776) t (rd [] (rtext 64) t st).2).2).2)

def rsnaps (t : List UInt8) : Nat → Option Nat → List Snp × Option Nat
  | 0, st => ([], st)
  | k + 1, st => ((rsnaps t k st).1 ++ [(rsnap t (rsnaps t k st).2).1], (rsnap t (rsnaps t k st).2).2)

theorem rsnaps_length (t : List UInt8) (k : Nat) (st : Option Nat) : (rsnaps t k st).1.length = k := by
  induction k with
  | zero => rfl
  | succ k ih => simp [rsnaps, ih]

def p1 (t : List UInt8) := rd [] (rtext 64) t (some 0)
def p2 (t : List UInt8) := rd 0 (rfixed 8) t (p1 t).2
def p3 (t : List UInt8) := rd 0 (rint 1099511627776) t (p2 t).2
def p4 (t : List UInt8) := rd 0 (rint 65536) t (p3 t).2
def p5 (t : List UInt8) := rd [] (rtext 64) t (p4 t).2
def p6 (t : List UInt8) := rd 0 (rint 1099511627776) t (p5 t).2
def p7 (t : List UInt8) := rd 0 (rint 100) t (p6 t).2

def pman (t : List UInt8) : Man := ⟨str (p1 t).1, ((p2 t).1 : Nat), ((p3 t).1 : Nat), ((p4 t).1 : Nat), str (p5 t).1, ((p6 t).1 : Nat), (rsnaps t (p7 t).1 (p7 t).2).1⟩
def pend (t : List UInt8) : Option Nat := (rsnaps t (p7 t).1 (p7 t).2).2

def Man.zero : Man := ⟨⟨#[]⟩, 0, 0, 0, ⟨#[]⟩, 0, []⟩

/-- What Decode answers. -/
def dman (l : List UInt8) : Man × Int :=
  if (opened l).2 ≠ 0 then (Man.zero, (opened l).2)
  else if Lib.hasPrefix (opened l).1 [77, 65, 78, 50] = false then (Man.zero, 14)
  else if pend ((opened l).1.drop 4) = some ((opened l).1.drop 4).length ∧ chk (pman ((opened l).1.drop 4)) = 0 then (pman ((opened l).1.drop 4), 0)
  else (Man.zero, 12)

theorem rtext_le {m x : Nat} {r v : List UInt8} (h : rtext m r = some (v, x)) : v.length ≤ r.length := by
  unfold rtext at h
  cases hr : rint m r with
  | none => rw [hr] at h; cases h
  | some yn =>
    obtain ⟨y, n⟩ := yn
    rw [hr] at h
    simp only at h
    split at h
    · cases h; simp; omega
    · cases h

theorem rd_text_le (m : Nat) (t : List UInt8) (st : Option Nat) : (rd [] (rtext m) t st).1.length ≤ t.length := by
  cases st with
  | none => simp [rd]
  | some a =>
    cases hr : rtext m (t.drop a) with
    | none => rw [rd_none hr]; simp
    | some vn =>
      obtain ⟨v, n⟩ := vn
      rw [rd_some hr]
      have := rtext_le hr
      simp at this
      show v.length ≤ t.length
      omega

theorem rd_int_le (m : Nat) (t : List UInt8) (st : Option Nat) : (rd 0 (rint m) t st).1 ≤ m := by
  cases st with
  | none => simp [rd]
  | some a =>
    cases hr : rint m (t.drop a) with
    | none => rw [rd_none hr]; simp
    | some vn =>
      obtain ⟨v, n⟩ := vn
      rw [rd_some hr]
      unfold rint at hr
      split at hr
      · cases hr
      · split at hr
        · cases hr; assumption
        · cases hr

theorem rsnaps_names (t : List UInt8) (k : Nat) (st : Option Nat) : ∀ x ∈ (rsnaps t k st).1, x.name.size ≤ t.length := by
  induction k with
  | zero => intro x hx; cases hx
  | succ k ih =>
    intro x hx
    rcases List.mem_append.mp hx with h | h
    · exact ih x h
    · rw [List.mem_singleton] at h
      subst h
      show (str _).size ≤ _
      rw [str_size]
      exact rd_text_le _ _ _

theorem pman_fits (t : List UInt8) (h : t.length ≤ 140737488351232) : Fits (pman t) := by
  refine ⟨?_, ?_, ?_, ?_⟩
  · show (str _).size ≤ _; rw [str_size]; exact Nat.le_trans (rd_text_le _ _ _) h
  · show (str _).size ≤ _; rw [str_size]; exact Nat.le_trans (rd_text_le _ _ _) h
  · show (rsnaps _ _ _).1.length ≤ _; rw [rsnaps_length]; have := rd_int_le 100 t (p6 t).2; show (p7 t).1 ≤ _; unfold p7; omega
  · intro x hx; exact Nat.le_trans (rsnaps_names _ _ _ x hx) h

/-! The row of snapshots in memory. -/

def snapVals (x : Snp) : List Value := [.string x.name, .int .i64 x.seq, .int .i64 x.upto]
def rowVals (l : List Snp) : List Value := (l.map snapVals).flatten

theorem rowVals_append (a b : List Snp) : rowVals (a ++ b) = rowVals a ++ rowVals b := by simp [rowVals]
theorem rowVals_length (l : List Snp) : (rowVals l).length = l.length * 3 := by
  induction l with
  | nil => rfl
  | cons x l ih => show (snapVals x ++ rowVals l).length = _; rw [List.length_append, ih]; simp [snapVals]; omega

theorem rowVals_at (l : List Snp) (i j : Nat) (hi : i < l.length) (hj : j < 3) : (rowVals l)[i * 3 + j]? = (snapVals (l.getD i Snp.zero))[j]? := by
  induction l generalizing i with
  | nil => cases hi
  | cons x l ih =>
    show (snapVals x ++ rowVals l)[_]? = _
    have h3 : (snapVals x).length = 3 := rfl
    cases i with
    | zero => rw [List.getElem?_append_left (by omega)]; simp
    | succ i =>
      rw [List.getElem?_append_right (by omega), h3, show (i + 1) * 3 + j - 3 = i * 3 + j by omega, ih i (by simpa using hi)]
      simp

theorem snaps_of_row {w : World} {base : Nat} {v : Value} {l : List Snp} (h : w.ownsRow base 56 3 v l.length (rowVals l)) : SnapsAt w v l := by
  rcases h.2 with ⟨rfl, h0⟩ | ⟨g, cap, cur, rfl, hb, hg, hc, hm, hs, ht⟩
  · refine ⟨none, 0, by rw [h0], fun i hi => by omega⟩
  · refine ⟨some ⟨g, 0, none⟩, cap, rfl, fun i hi => ⟨g, 0, rfl, ?_, ?_, ?_⟩⟩
    all_goals
      simp only [Nat.zero_add]
    · have := h.cells (g := g) rfl (i * 3 + 0) (.string (l.getD i Snp.zero).name) (by rw [rowVals_at l i 0 hi (by omega)]; rfl)
      rcases Nat.eq_zero_or_pos i with rfl | hp
      · simpa [Addr.add] using this
      · rw [Nat.add_zero] at this
        simpa [Addr.add, show i * 3 ≠ 0 by omega, show i ≠ 0 by omega] using this
    · have := h.cells (g := g) rfl (i * 3 + 1) (.int .i64 (l.getD i Snp.zero).seq) (by rw [rowVals_at l i 1 hi (by omega)]; rfl)
      simpa [Addr.add, Nat.add_assoc] using this
    · have := h.cells (g := g) rfl (i * 3 + 2) (.int .i64 (l.getD i Snp.zero).upto) (by rw [rowVals_at l i 2 hi (by omega)]; rfl)
      simpa [Addr.add, Nat.add_assoc] using this

/-- A row stays where its block stays. -/
theorem row_kept {w w' : World} {base e size n : Nat} {v : Value} {xs : List Value} (h : w.ownsRow base e size v n xs) {X : Nat → Prop} (hk : KeepsBut X w w') (hX : ∀ k, v.ownBlock = some k → ¬ X k) : w'.ownsRow base e size v n xs := by
  refine ⟨h.1, ?_⟩
  rcases h.2 with e | ⟨g, cap, cur, e1, e2, e3, e4⟩
  · exact .inl e
  · refine .inr ⟨g, cap, cur, e1, e2, (hk.block g ?_ (hX g (by rw [e1]; rfl))).trans e3, e4⟩
    exact (h.lt g (by rw [e1]; rfl)).2

theorem Try.info56 : (Try.prog.info? 56).map (fun i => (i.zero, i.size, i.bytes)) = some (some (.agg #[.string ⟨#[]⟩, .int .i64 0, .int .i64 0]), 3, 32) := by kernel_rfl
theorem Try.info81 : (Try.prog.info? 81).map (fun i => (i.zero, i.size, i.bytes)) = some (some (.agg #[.string ⟨#[]⟩, .int .i64 0, .int .i64 0]), 3, 32) := by kernel_rfl
end Go.Proofs.Ytmkcphelmgkipaa
