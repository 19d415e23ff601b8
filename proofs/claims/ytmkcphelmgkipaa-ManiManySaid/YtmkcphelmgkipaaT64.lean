import Derived.Test.YtmkcphelmgkipaaT47
import Derived.Test.YtmkcphelmgkipaaT51
set_option linter.unusedVariables false
set_option linter.unusedSimpArgs false
namespace Go.Proofs.Ytmkcphelmgkipaa
open Go.ChangeShapes Go.WideShapes Go.ChangeAt Go.RowKit Go.Deep

/-! The arguments opened, with the slices' capacities. -/

section
variable {H : Type} {enc : TypeId × Value → H} {w : World} {base : Nat} {spare : Nat → Bool} {held : Bool}

theorem open_snaps_cap {fuel : Nat} {cs : List Value} {x : DataW H × List MemPlace} (h : DataW.trod enc Try.prog w base spare held fuel 27 cs = some x) :
    ∃ (sv : Value) (l : List Snp), cs = [sv] ∧ SnapsAt w sv l ∧ CapOk sv l.length ∧ l.length ≤ maxLen ∧ ∀ y ∈ l, SnpIn y := by
  rcases open_slice Try.underlying27 h with ⟨rfl, _⟩ | ⟨a, len, cap, m, n, D, Pl, rfl, _, hl, hm, hmm, _, hi⟩
  · exact ⟨_, [], rfl, ⟨none, 0, rfl, fun i hi => by cases hi⟩, ⟨none, 0, rfl, fun _ => rfl, Nat.le_refl _, by unfold maxLen; omega⟩, by simp, fun y hy => by cases hy⟩
  · have hlm : len ≤ m := by rw [hmm]; split <;> omega
    obtain ⟨f, hf⟩ := choose_lt (α := Snp) (n := len) (p := fun i y => (w.cell? (a.add (i * 3)) = some (.string y.name) ∧ w.cell? ((a.add (i * 3)).add 1) = some (.int .i64 y.seq) ∧ w.cell? ((a.add (i * 3)).add 2) = some (.int .i64 y.upto)) ∧ SnpIn y) (fun i hil => by
      obtain ⟨cs', h1, h2⟩ := hi i (by omega)
      obtain ⟨y, rfl, hy⟩ := open_snap h2
      rw [Try.cells56] at h1
      obtain ⟨_, _, hc⟩ := World.cells?_some h1
      exact ⟨y, ⟨hc 0 (by omega), hc 1 (by omega), hc 2 (by omega)⟩, hy⟩)
    refine ⟨_, (List.range len).map f, rfl, ⟨some a, cap, by simp, fun i hil => ?_⟩, ⟨some a, cap, by simp, (fun e => by cases e), by simp; omega, hm⟩, by simp; omega, fun y hy => ?_⟩
    · rw [List.length_map, List.length_range] at hil
      obtain ⟨⟨h0, h1, h2⟩, _⟩ := hf i hil
      obtain ⟨b, off, spot⟩ := a
      have hspot : spot = none := by simpa [Addr.add] using World.cell?_spot (hf 0 (by omega)).1.1
      subst hspot
      rw [add_plain] at h0 h1 h2
      rw [add_plain] at h1 h2
      have e : ((List.range len).map f).getD i Snp.zero = f i := by simp [List.getD_eq_getElem?_getD, hil]
      rw [e]
      exact ⟨b, off, rfl, h0, h1, h2⟩
    · obtain ⟨i, hi', rfl⟩ := List.mem_map.1 hy
      exact (hf i (by simpa using hi')).2

set_option maxRecDepth 100000 in
theorem open_man_cap {r : Reach} {b0 : Nat} {v : Value} {d : DataW H} {p : List MemPlace} (hv : Value.okWide Try.prog w r b0 29 v) (h : DataW.Trod enc Try.prog w base spare held 29 v d p) :
    ∃ (m : Man) (sv : Value), v = m.val sv ∧ SnapsAt w sv m.snaps ∧ CapOk sv m.snaps.length ∧ ManIn m := by
  obtain ⟨cs, rfl, hsz⟩ := okWide_struct Try.underlying29 hv
  obtain ⟨fuel, hf⟩ := h
  obtain ⟨xs, n, _, _, hl, hx, hf⟩ := DataW.trod_struct Try.underlying29 hf
  obtain ⟨l⟩ := cs
  have h0 : DataW.trod enc Try.prog w base spare held n 9 ((((Value.cells (.agg ⟨l⟩)).toList).drop 0).take (Try.prog.cellsOf 9)) = xs[0]? := hf 0 _ rfl
  rw [Try.cells9'] at h0
  have h1 : DataW.trod enc Try.prog w base spare held n 24 ((((Value.cells (.agg ⟨l⟩)).toList).drop 1).take (Try.prog.cellsOf 24)) = xs[1]? := hf 1 _ rfl
  rw [Try.cells24] at h1
  have h2 : DataW.trod enc Try.prog w base spare held n 3 ((((Value.cells (.agg ⟨l⟩)).toList).drop 2).take (Try.prog.cellsOf 3)) = xs[2]? := hf 2 _ rfl
  rw [Try.cells3] at h2
  have h3 : DataW.trod enc Try.prog w base spare held n 3 ((((Value.cells (.agg ⟨l⟩)).toList).drop 3).take (Try.prog.cellsOf 3)) = xs[3]? := hf 3 _ rfl
  rw [Try.cells3] at h3
  have h4 : DataW.trod enc Try.prog w base spare held n 26 ((((Value.cells (.agg ⟨l⟩)).toList).drop 4).take (Try.prog.cellsOf 26)) = xs[4]? := hf 4 _ rfl
  rw [Try.cells26] at h4
  have h5 : DataW.trod enc Try.prog w base spare held n 27 ((((Value.cells (.agg ⟨l⟩)).toList).drop 6).take (Try.prog.cellsOf 27)) = xs[5]? := hf 5 _ rfl
  rw [Try.cells27] at h5
  rw [Try.cells29] at hsz
  have hx6 : xs.length = 6 := hx
  clear hx hf
  match xs, hx6 with
  | [x0, x1, x2, x3, x4, x5], _ =>
  match l, hsz with
  | [c0, c1, c2, c3, c4, c5, c6], _ =>
    obtain ⟨s, e0, _, hs⟩ := DataW.trod_string Try.underlying9 h0
    obtain ⟨k, e1, _, hk⟩ := DataW.trod_int Try.underlying24 h1
    obtain ⟨a, e2, _, ha⟩ := DataW.trod_int Try.underlying3 h2
    obtain ⟨b, e3, _, hb⟩ := DataW.trod_int Try.underlying3 h3
    obtain ⟨bs, bn, e4, hbs, hbn⟩ := open_base h4
    obtain ⟨sv, sl, e5, hS, hC, hsl, hsn⟩ := open_snaps_cap h5
    simp [Value.cells] at e0 e1 e2 e3 e4 e5
    obtain ⟨e4, e4'⟩ := e4
    subst e0 e1 e2 e3 e4 e4' e5
    exact ⟨⟨s, k, a, b, bs, bn, sl⟩, _, rfl, hS, hC, hs, hbs, inu64_of hk, in64_of ha, in64_of hb, hbn, hsl, hsn⟩


set_option maxRecDepth 100000 in
theorem open_list {r : Reach} {b0 : Nat} {v : Value} {d : DataW H} {p : List MemPlace} (hv : Value.okWide Try.prog w r b0 27 v) (h : DataW.Trod enc Try.prog w base spare held 27 v d p) :
    ∃ (l : List Snp), SnapsAt w v l ∧ CapOk v l.length ∧ l.length ≤ maxLen ∧ ∀ y ∈ l, SnpIn y := by
  obtain ⟨a, len, cap, rfl⟩ := okWide_slice Try.underlying27 hv
  obtain ⟨fuel, hf⟩ := h
  obtain ⟨sv, l, e, h1, h2, h3, h4⟩ := open_snaps_cap hf
  simp [Value.cells] at e
  subst e
  exact ⟨l, h1, h2, h3, h4⟩
end
end Go.Proofs.Ytmkcphelmgkipaa
