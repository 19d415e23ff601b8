import Derived.Test.YtmkcphelmgkipaaG3
import Derived.Deep.RegionHeld3
import Derived.Deep.AppendLies
import Derived.BigQuiet
set_option linter.unusedVariables false
set_option linter.unusedSimpArgs false
namespace Go.Proofs.Ytmkcphelmgkipaa
open Go.RowKit

/-! What the reading of a manifest comes to. -/

def rsnap (t : List UInt8) (st : Option Nat) : Snp × Option Nat :=
  (⟨str (rd [] (rtext 64) t st).1, ((rd 0 (rint 1099511627776) t (rd [] (rtext 64) t st).2).1 : Nat), ((rd 0 (rint 1099511627776) t (rd 0 (rint 1099511627776) t (rd [] (rtext 64) t st).2).2).1 : Nat)⟩,
   (rd 0 (rint 1099511627776) t (rd 0 (rint 1099511627776) t (rd [] (rtext 64) t st).2).2).2)

def rsnaps (t : List UInt8) : Nat → Option Nat → List Snp × Option Nat
  | 0, st => ([], st)
  | k + 1, st => ((rsnaps t k st).1 ++ [(rsnap t (rsnaps t k st).2).1], (rsnap t (rsnaps t k st).2).2)

theorem rsnaps_length (t : List UInt8) (k : Nat) (st : Option Nat) : (rsnaps t k st).1.length = k := by
  induction k with
  | zero => rfl
  | succ k ih => simp [rsnaps, ih]

def p1 (t : List UInt8) := rd [] (rtext 64) t (some 0)
def p2 (t : List UInt8) := rd 0 (rfixed 8) t (p1 t).2
def p3 (t : List UInt8) := rd 0 (rint 1099511627776) t (p2 t).2
def p4 (t : List UInt8) := rd 0 (rint 65536) t (p3 t).2
def p5 (t : List UInt8) := rd [] (rtext 64) t (p4 t).2
def p6 (t : List UInt8) := rd 0 (rint 1099511627776) t (p5 t).2
def p7 (t : List UInt8) := rd 0 (rint 100) t (p6 t).2

def pman (t : List UInt8) : Man := ⟨str (p1 t).1, ((p2 t).1 : Nat), ((p3 t).1 : Nat), ((p4 t).1 : Nat), str (p5 t).1, ((p6 t).1 : Nat), (rsnaps t (p7 t).1 (p7 t).2).1⟩
def pend (t : List UInt8) : Option Nat := (rsnaps t (p7 t).1 (p7 t).2).2

def Man.zero : Man := ⟨⟨#[]⟩, 0, 0, 0, ⟨#[]⟩, 0, []⟩

/-- What Decode answers. -/
def dman (l : List UInt8) : Man × Int :=
  if (opened l).2 ≠ 0 then (Man.zero, (opened l).2)
  else if Lib.hasPrefix (opened l).1 [77, 65, 78, 50] = false then (Man.zero, 14)
  else if pend ((opened l).1.drop 4) = some ((opened l).1.drop 4).length ∧ chk (pman ((opened l).1.drop 4)) = 0 then (pman ((opened l).1.drop 4), 0)
  else (Man.zero, 12)

theorem rtext_le {m x : Nat} {r v : List UInt8} (h : rtext m r = some (v, x)) : v.length ≤ r.length := by
  unfold rtext at h
  cases hr : rint m r with
  | none => rw [hr] at h; cases h
  | some yn =>
    obtain ⟨y, n⟩ := yn
    rw [hr] at h
    simp only at h
    split at h
    · cases h; simp; omega
    · cases h

theorem rd_text_le (m : Nat) (t : List UInt8) (st : Option Nat) : (rd [] (rtext m) t st).1.length ≤ t.length := by
  cases st with
  | none => simp [rd]
  | some a =>
    cases hr : rtext m (t.drop a) with
    | none => rw [rd_none hr]; simp
    | some vn =>
      obtain ⟨v, n⟩ := vn
      rw [rd_some hr]
      have := rtext_le hr
      simp at this
      show v.length ≤ t.length
      omega

theorem rd_int_le (m : Nat) (t : List UInt8) (st : Option Nat) : (rd 0 (rint m) t st).1 ≤ m := by
  cases st with
  | none => simp [rd]
  | some a =>
    cases hr : rint m (t.drop a) with
    | none => rw [rd_none hr]; simp
    | some vn =>
      obtain ⟨v, n⟩ := vn
      rw [rd_some hr]
      unfold rint at hr
      split at hr
      · cases hr
      · split at hr
        · cases hr; assumption
        · cases hr

theorem rsnaps_names (t : List UInt8) (k : Nat) (st : Option Nat) : ∀ x ∈ (rsnaps t k st).1, x.name.size ≤ t.length := by
  induction k with
  | zero => intro x hx; cases hx
  | succ k ih =>
    intro x hx
    rcases List.mem_append.mp hx with h | h
    · exact ih x h
    · rw [List.mem_singleton] at h
      subst h
      show (str _).size ≤ _
      rw [str_size]
      exact rd_text_le _ _ _

theorem pman_fits (t : List UInt8) (h : t.length ≤ 140737488351232) : Fits (pman t) := by
  refine ⟨?_, ?_, ?_, ?_⟩
  · show (str _).size ≤ _; rw [str_size]; exact Nat.le_trans (rd_text_le _ _ _) h
  · show (str _).size ≤ _; rw [str_size]; exact Nat.le_trans (rd_text_le _ _ _) h
  · show (rsnaps _ _ _).1.length ≤ _; rw [rsnaps_length]; have := rd_int_le 100 t (p6 t).2; show (p7 t).1 ≤ _; unfold p7; omega
  · intro x hx; exact Nat.le_trans (rsnaps_names _ _ _ x hx) h

/-! The row of snapshots in memory. -/

def snapVals (x : Snp) : List Value := [.string x.name, .int .i64 x.seq, .int .i64 x.upto]
def rowVals (l : List Snp) : List Value := (l.map snapVals).flatten

theorem rowVals_append (a b : List Snp) : rowVals (a ++ b) = rowVals a ++ rowVals b := by simp [rowVals]
theorem rowVals_length (l : List Snp) : (rowVals l).length = l.length * 3 := by
  induction l with
  | nil => rfl
  | cons x l ih => show (snapVals x ++ rowVals l).length = _; rw [List.length_append, ih]; simp [snapVals]; omega

theorem rowVals_at (l : List Snp) (i j : Nat) (hi : i < l.length) (hj : j < 3) : (rowVals l)[i * 3 + j]? = (snapVals (l.getD i Snp.zero))[j]? := by
  induction l generalizing i with
  | nil => cases hi
  | cons x l ih =>
    show (snapVals x ++ rowVals l)[_]? = _
    have h3 : (snapVals x).length = 3 := rfl
    cases i with
    | zero => rw [List.getElem?_append_left (by omega)]; simp
    | succ i =>
      rw [List.getElem?_append_right (by omega), h3, show (i + 1) * 3 + j - 3 = i * 3 + j by omega, ih i (by simpa using hi)]
      simp

theorem snaps_of_row {w : World} {base : Nat} {v : Value} {l : List Snp} (h : w.ownsRow base 56 3 v l.length (rowVals l)) : SnapsAt w v l := by
  rcases h.2 with ⟨rfl, h0⟩ | ⟨g, cap, cur, rfl, hb, hg, hc, hm, hs, ht⟩
  · refine ⟨none, 0, by rw [h0], fun i hi => by omega⟩
  · refine ⟨some ⟨g, 0, none⟩, cap, rfl, fun i hi => ⟨g, 0, rfl, ?_, ?_, ?_⟩⟩
    all_goals
      simp only [Nat.zero_add]
    · have := h.cells (g := g) rfl (i * 3 + 0) (.string (l.getD i Snp.zero).name) (by rw [rowVals_at l i 0 hi (by omega)]; rfl)
      rcases Nat.eq_zero_or_pos i with rfl | hp
      · simpa [Addr.add] using this
      · rw [Nat.add_zero] at this
        simpa [Addr.add, show i * 3 ≠ 0 by omega, show i ≠ 0 by omega] using this
    · have := h.cells (g := g) rfl (i * 3 + 1) (.int .i64 (l.getD i Snp.zero).seq) (by rw [rowVals_at l i 1 hi (by omega)]; rfl)
      simpa [Addr.add, Nat.add_assoc] using this
    · have := h.cells (g := g) rfl (i * 3 + 2) (.int .i64 (l.getD i Snp.zero).upto) (by rw [rowVals_at l i 2 hi (by omega)]; rfl)
      simpa [Addr.add, Nat.add_assoc] using this

/-- A row stays where its block stays. -/
theorem row_kept {w w' : World} {base e size n : Nat} {v : Value} {xs : List Value} (h : w.ownsRow base e size v n xs) {X : Nat → Prop} (hk : KeepsBut X w w') (hX : ∀ k, v.ownBlock = some k → ¬ X k) : w'.ownsRow base e size v n xs := by
  refine ⟨h.1, ?_⟩
  rcases h.2 with e | ⟨g, cap, cur, e1, e2, e3, e4⟩
  · exact .inl e
  · refine .inr ⟨g, cap, cur, e1, e2, (hk.block g ?_ (hX g (by rw [e1]; rfl))).trans e3, e4⟩
    exact (h.lt g (by rw [e1]; rfl)).2

theorem Try.info56 : (Try.prog.info? 56).map (fun i => (i.zero, i.size, i.bytes)) = some (some (.agg #[.string ⟨#[]⟩, .int .i64 0, .int .i64 0]), 3, 32) := by kernel_rfl
theorem Try.info81 : (Try.prog.info? 81).map (fun i => (i.zero, i.size, i.bytes)) = some (some (.agg #[.string ⟨#[]⟩, .int .i64 0, .int .i64 0]), 3, 32) := by kernel_rfl
end Go.Proofs.Ytmkcphelmgkipaa

namespace Go.Proofs.Ytmkcphelmgkipaa
open Go.RowKit
attribute [local go_sem ↓] Go.wp_at_zero Go.wp_at_succ

def ManPost (l : Man × Int) (w : World) (e : Ending) (w' : World) : Prop :=
  ∃ sv, e = .returned (.tuple #[l.1.val sv, .int .i64 l.2]) ∧ SnapsAt w' sv l.1.snaps ∧ Below w.heap.size w w'

theorem snaps_nil (w : World) : SnapsAt w (.slice none 0 0) [] := ⟨none, 0, rfl, fun i hi => by cases hi⟩

theorem manPost_zero (c : Int) {w w' : World} (hb : Below w.heap.size w w') : ManPost (Man.zero, c) w (.returned (.tuple #[.agg #[.string ⟨#[]⟩, .int .u64 0, .int .i64 0, .int .i64 0, .string ⟨#[]⟩, .int .i64 0, .slice none 0 0], .int .i64 c])) w' :=
  ⟨.slice none 0 0, rfl, snaps_nil _, hb⟩

theorem open_is (s : ByteArray) (hs : s.size ≤ 140737488351232) {A : List UInt8} {c : Int} (h : opened s.data.toList = (A, c)) (w : World) :
    Calls Try.prog 26 #[.string s] w fun e w' => e = .returned (.tuple #[.string (str A), .int .i64 c]) ∧ Below w.heap.size w w' := by
  have := open_any s w hs
  rw [h] at this
  exact this

theorem ks (w : World) (b o : Nat) (v : Value) : KeepsBut (fun k => k = b) w (w.setCell ⟨b, o, none⟩ v) := KeepsBut.setCell (X := fun k => k = b) w (p := ⟨b, o, none⟩) rfl v

/-- A whole manifest's seven cells, stored one by one. -/
theorem seven {w : World} {b : Nat} {a0 a1 a2 a3 a4 a5 a6 : Value} {e : TypeId} (h : w.heap[b]? = some (.cells #[a0, a1, a2, a3, a4, a5, a6] e (0, 0))) (v0 v1 v2 v3 v4 v5 v6 : Value) :
    (((((((w.setCell ⟨b, 0, none⟩ v0).setCell ⟨b, 1, none⟩ v1).setCell ⟨b, 2, none⟩ v2).setCell ⟨b, 3, none⟩ v3).setCell ⟨b, 4, none⟩ v4).setCell ⟨b, 5, none⟩ v5).setCell ⟨b, 6, none⟩ v6).heap[b]? = some (.cells #[v0, v1, v2, v3, v4, v5, v6] e (0, 0)) ∧
    KeepsBut (fun k => k = b) w (((((((w.setCell ⟨b, 0, none⟩ v0).setCell ⟨b, 1, none⟩ v1).setCell ⟨b, 2, none⟩ v2).setCell ⟨b, 3, none⟩ v3).setCell ⟨b, 4, none⟩ v4).setCell ⟨b, 5, none⟩ v5).setCell ⟨b, 6, none⟩ v6) := by
  constructor
  · rw [heap_setCell_same _ b 6 #[v0, v1, v2, v3, v4, v5, a6] e _ ?_]; rfl
    rw [heap_setCell_same _ b 5 #[v0, v1, v2, v3, v4, a5, a6] e _ ?_]; rfl
    rw [heap_setCell_same _ b 4 #[v0, v1, v2, v3, a4, a5, a6] e _ ?_]; rfl
    rw [heap_setCell_same _ b 3 #[v0, v1, v2, a3, a4, a5, a6] e _ ?_]; rfl
    rw [heap_setCell_same _ b 2 #[v0, v1, a2, a3, a4, a5, a6] e _ ?_]; rfl
    rw [heap_setCell_same _ b 1 #[v0, a1, a2, a3, a4, a5, a6] e _ ?_]; rfl
    rw [heap_setCell_same _ b 0 #[a0, a1, a2, a3, a4, a5, a6] e _ h]; rfl
  · exact ((((((ks _ b 0 v0).trans (ks _ b 1 v1)).trans (ks _ b 2 v2)).trans (ks _ b 3 v3)).trans (ks _ b 4 v4)).trans (ks _ b 5 v5)).trans (ks _ b 6 v6)

theorem leaveB {P : Program} {fn : Func} {tmps : Array Value} {R : Ending → World → Prop} {w : World} {v : Value} (hr : (results fn tmps).run P w = .ok v w) (h : R (.returned v) w) :
    bodyPost P fn R .ret { tmps := tmps, defers := [] } w := ⟨rfl, v, hr, h⟩

theorem res8 {W : World} {b : Nat} {c : Int} {v0 v1 v2 v3 v4 v5 v6 : Value} {tmps : Array Value} (h : W.heap[b]? = some (.cells #[v0, v1, v2, v3, v4, v5, v6] 29 (0, 0)))
    (h2 : tmps[2]? = some (.pointer (some ⟨b, 0, none⟩))) (h3 : tmps[3]? = some (.int .i64 c)) :
    (results Try.f8 tmps).run Try.prog W = .ok (.tuple #[.agg #[v0, v1, v2, v3, v4, v5, v6], .int .i64 c]) W := by
  have k0 := cell_of_heap h 0
  have k1 := cell_of_heap h 1
  have k2 := cell_of_heap h 2
  have k3 := cell_of_heap h 3
  have k4 := cell_of_heap h 4
  have k5 := cell_of_heap h 5
  have k6 := cell_of_heap h 6
  simp only [List.getElem?_toArray, List.getElem?_cons_zero, List.getElem?_cons_succ] at k0 k1 k2 k3 k4 k5 k6
  simp [results, Try.results8, go_sem, h2, h3, k0, k1, k2, k3, k4, k5, k6]

set_option maxHeartbeats 1000000 in
set_option maxRecDepth 100000 in
theorem decode_bad (s : ByteArray) (w : World) (hs : s.size ≤ 140737488351232) {A : List UInt8} {c : Int} (h : opened s.data.toList = (A, c)) (hc : c ≠ 0) :
    Calls Try.prog 8 #[.string s] w (ManPost (Man.zero, c) w) := by
  have hd : (c != 0) = true := by rw [bne_iff_ne]; exact hc
  have HO : Hid (∀ w, Calls Try.prog 26 #[.string s] w fun e w' => e = .returned (.tuple #[.string (str A), .int .i64 c]) ∧ Below w.heap.size w w') := fun w => open_is s hs h w
  clear h hc
  go_enter Try.func8, Try.ntmps8
  go_wp2_with fail
  refine (HO.out _).mono ?_
  rintro e w1 ⟨rfl, hb⟩
  have hx : w1.heap[w.heap.size]? = some (.cells #[.string ⟨#[]⟩, .int .u64 0, .int .i64 0, .int .i64 0, .string ⟨#[]⟩, .int .i64 0, .slice none 0 0] 29 (0, 0)) := by
    rw [hb.block _ (by simp)]; exact heap_alloc_new w _
  have HB := Lib.hid (alloc_trans hb)
  clear hb
  have k0 := cell_of_heap hx 0
  have k1 := cell_of_heap hx 1
  have k2 := cell_of_heap hx 2
  have k3 := cell_of_heap hx 3
  have k4 := cell_of_heap hx 4
  have k5 := cell_of_heap hx 5
  have k6 := cell_of_heap hx 6
  have f := frozen_of_heap hx
  simp only [List.getElem?_toArray, List.getElem?_cons_zero, List.getElem?_cons_succ] at k0 k1 k2 k3 k4 k5 k6
  have HX := Lib.hid hx
  clear hx
  go_wp2
  obtain ⟨g1, g2⟩ := seven HX.out (.string ⟨#[]⟩) (.int .u64 0) (.int .i64 0) (.int .i64 0) (.string ⟨#[]⟩) (.int .i64 0) (.slice none 0 0)
  exact leaveB (res8 g1 rfl rfl) (manPost_zero c (HB.out.trans (g2.below (fun k e => by omega) HB.out.size)))
set_option maxHeartbeats 1000000 in
set_option maxRecDepth 100000 in
theorem decode_kind (s : ByteArray) (w : World) (hs : s.size ≤ 140737488351232) {A : List UInt8} (h : opened s.data.toList = (A, 0)) (hp : Lib.hasPrefix A [77, 65, 78, 50] = false) :
    Calls Try.prog 8 #[.string s] w (ManPost (Man.zero, 14) w) := by
  have HO : Hid (∀ w, Calls Try.prog 26 #[.string s] w fun e w' => e = .returned (.tuple #[.string (str A), .int .i64 0]) ∧ Below w.heap.size w w') := fun w => open_is s hs h w
  have HP : Hid (∀ w, Calls Try.prog 27 #[.string (str A), .string ⟨#[77, 65, 78, 50]⟩] w fun e w' => e = .returned (.bool false) ∧ w' = w) := fun w => by
    have := Try.strings_HasPrefix (str A) ⟨#[77, 65, 78, 50]⟩ w
    rw [str_data, hp] at this
    exact this
  clear h hp
  go_enter Try.func8, Try.ntmps8
  go_wp2_with fail
  refine (HO.out _).mono ?_
  rintro e w1 ⟨rfl, hb⟩
  have hx : w1.heap[w.heap.size]? = some (.cells #[.string ⟨#[]⟩, .int .u64 0, .int .i64 0, .int .i64 0, .string ⟨#[]⟩, .int .i64 0, .slice none 0 0] 29 (0, 0)) := by
    rw [hb.block _ (by simp)]; exact heap_alloc_new w _
  have HB := Lib.hid (alloc_trans hb)
  clear hb
  have k0 := cell_of_heap hx 0
  have k1 := cell_of_heap hx 1
  have k2 := cell_of_heap hx 2
  have k3 := cell_of_heap hx 3
  have k4 := cell_of_heap hx 4
  have k5 := cell_of_heap hx 5
  have k6 := cell_of_heap hx 6
  have f := frozen_of_heap hx
  simp only [List.getElem?_toArray, List.getElem?_cons_zero, List.getElem?_cons_succ] at k0 k1 k2 k3 k4 k5 k6
  have HX := Lib.hid hx
  clear hx
  go_wp2_with fail
  refine (HP.out _).mono ?_
  rintro e w1 ⟨rfl, rfl⟩
  go_wp2
  obtain ⟨g1, g2⟩ := seven HX.out (.string ⟨#[]⟩) (.int .u64 0) (.int .i64 0) (.int .i64 0) (.string ⟨#[]⟩) (.int .i64 0) (.slice none 0 0)
  exact leaveB (res8 g1 rfl rfl) (manPost_zero 14 (HB.out.trans (g2.below (fun k e => by omega) HB.out.size)))
end Go.Proofs.Ytmkcphelmgkipaa

namespace Go.Proofs.Ytmkcphelmgkipaa
open Go.RowKit
attribute [local go_sem ↓] Go.wp_at_zero Go.wp_at_succ

theorem text_x (o : Nat) (T : List UInt8) (st : Option Nat) (p : List UInt8 × Option Nat) (hp : p = rd [] (rtext 64) T st) (w : World) (h : St w o (str T) st) (hs : T.length ≤ 140737488351232) :
    Calls Try.prog 29 #[.pointer (some ⟨o, 0, none⟩), .int .i64 64] w fun e w' => KeepsBut (fun k => k = o) w w' ∧ e = .returned (.string (str p.1)) ∧ St w' o (str T) p.2 := by
  have := text_st o 64 (str T) st w h (by rw [str_size]; exact hs) (by omega)
  unfold TextPost at this
  rw [str_data, ← hp] at this
  exact this

theorem int_x (o most : Nat) (T : List UInt8) (st : Option Nat) (p : Nat × Option Nat) (hp : p = rd 0 (rint most) T st) (w : World) (h : St w o (str T) st) (hs : T.length ≤ 140737488351232) (hm : most ≤ 4611686018427387904) :
    Calls Try.prog 31 #[.pointer (some ⟨o, 0, none⟩), .int .i64 most] w fun e w' => KeepsBut (fun k => k = o) w w' ∧ e = .returned (.int .i64 (p.1 : Nat)) ∧ St w' o (str T) p.2 := by
  have := int_st o most (str T) st w h (by rw [str_size]; exact hs) hm
  unfold IntPost at this
  rw [str_data, ← hp] at this
  exact this

theorem fixed_x (o : Nat) (T : List UInt8) (st : Option Nat) (p : Nat × Option Nat) (hp : p = rd 0 (rfixed 8) T st) (w : World) (h : St w o (str T) st) (hs : T.length ≤ 140737488351232) :
    Calls Try.prog 30 #[.pointer (some ⟨o, 0, none⟩), .int .i64 8] w fun e w' => KeepsBut (fun k => k = o) w w' ∧ e = .returned (.int .u64 (p.1 : Nat)) ∧ St w' o (str T) p.2 := by
  have := infixed_st o 8 (str T) st w h (by rw [str_size]; exact hs) (by omega) (by omega)
  unfold FixedPost at this
  rw [str_data, ← hp] at this
  exact this

theorem keeps_at {o b : Nat} {w w' : World} {x : Obj} (hk : KeepsBut (fun k => k = o) w w') (h : w.heap[b]? = some x) (hb : b ≠ o) : w'.heap[b]? = some x := by
  refine (hk.block b ?_ hb).trans h
  rcases Nat.lt_or_ge b w.heap.size with hl | hl
  · exact hl
  · rw [Array.getElem?_eq_none hl] at h; cases h

theorem keeps_below {o : Nat} {w w' : World} (hk : KeepsBut (fun k => k = o) w w') (ho : o ≤ w.heap.size) : Below o w w' := hk.below (fun k e => by omega) ho

def manRes (T : List UInt8) : Man × Int := if pend T = some T.length ∧ chk (pman T) = 0 then (pman T, 0) else (Man.zero, 12)

theorem World.lt_of_heap {w : World} {b : Nat} {x : Obj} (h : w.heap[b]? = some x) : b < w.heap.size := by
  rcases Nat.lt_or_ge b w.heap.size with hl | hl
  · exact hl
  · rw [Array.getElem?_eq_none hl] at h; cases h

set_option maxHeartbeats 1000000 in
set_option maxRecDepth 100000 in
theorem decode_main (s : ByteArray) (w : World) (hs : s.size ≤ 140737488351232) {A T : List UInt8} (h : opened s.data.toList = (A, 0)) (hp : Lib.hasPrefix A [77, 65, 78, 50] = true)
    (hA : 4 ≤ A.length) (hAs : A.length ≤ s.size) (hT : T = A.drop 4) :
    Calls Try.prog 8 #[.string s] w (ManPost (manRes T) w) := by
  have HO : Hid (∀ w, Calls Try.prog 26 #[.string s] w fun e w' => e = .returned (.tuple #[.string (str A), .int .i64 0]) ∧ Below w.heap.size w w') := fun w => open_is s hs h w
  have HP : Hid (∀ w, Calls Try.prog 27 #[.string (str A), .string ⟨#[77, 65, 78, 50]⟩] w fun e w' => e = .returned (.bool true) ∧ w' = w) := fun w => by
    have := Try.strings_HasPrefix (str A) ⟨#[77, 65, 78, 50]⟩ w
    rw [str_data, hp] at this
    exact this
  have hTl : T.length ≤ 140737488351232 := by rw [hT, List.length_drop]; omega
  have hAe : (str A).extract 4 (str A).size = str T := by rw [ext_end, hT, str_data]
  have hAz : (4 : Int) ≤ ((str A).size : Nat) := by rw [str_size]; omega
  have HTL := Lib.hid hTl
  have HAE := Lib.hid hAe
  clear h hp hT hAe hTl
  obtain ⟨i0, hi, hz0, hz1, hz2⟩ := info_parts Try.info56
  go_enter Try.func8, Try.ntmps8
  go_wp2_with fail
  refine (HO.out _).mono ?_
  rintro e w1 ⟨rfl, hb⟩
  have hx : w1.heap[w.heap.size]? = some (.cells #[.string ⟨#[]⟩, .int .u64 0, .int .i64 0, .int .i64 0, .string ⟨#[]⟩, .int .i64 0, .slice none 0 0] 29 (0, 0)) := by
    rw [hb.block _ (by simp)]; exact heap_alloc_new w _
  have hBo : w.heap.size < w1.heap.size := by have := hb.size; simp at this; omega
  have HB := Lib.hid (alloc_trans hb)
  have HX := Lib.hid hx
  clear hb hx
  go_wp2_with fail
  refine (HP.out _).mono ?_
  rintro e w1 ⟨rfl, rfl⟩
  go_wp2_with fail
  rw [HAE.out]
  refine (read_any _ _).mono ?_
  rintro e w2 ⟨rfl, hw2⟩
  obtain ⟨o, ho⟩ : ∃ o, o = w1.heap.size := ⟨_, rfl⟩
  have hst0 : St w2 o (str T) (some 0) := ⟨Nat.zero_le _, by rw [hw2, ho]; exact heap_alloc_new w1 _⟩
  have hK2 : Below o w1 w2 := by rw [hw2, ho]; exact (Below.refl _ w1).alloc (Nat.le_refl _) _
  have hs2 : w2.heap.size = o + 1 := by rw [hw2, ho]; simp
  rw [← ho] at hBo ⊢
  have HW1 := Lib.hid ho
  clear hw2 ho
  -- the four ahead
  go_wp2_with fail
  refine (text_x o T _ (p1 T) rfl _ hst0 HTL.out).mono ?_
  rintro e w3 ⟨hk, rfl, hst1⟩
  have hs3 := hk.size
  have hK3 := hK2.trans (keeps_below hk (by omega))
  clear hk hK2 hst0
  go_wp2_with fail
  refine (fixed_x o T _ (p2 T) rfl _ hst1 HTL.out).mono ?_
  rintro e w4 ⟨hk, rfl, hst2⟩
  have hs4 := hk.size
  have hK4 := hK3.trans (keeps_below hk (by omega))
  clear hk hK3 hst1
  go_wp2_with fail
  refine (int_x o 1099511627776 T _ (p3 T) rfl _ hst2 HTL.out (by omega)).mono ?_
  rintro e w5 ⟨hk, rfl, hst3⟩
  have hs5 := hk.size
  have hK5 := hK4.trans (keeps_below hk (by omega))
  clear hk hK4 hst2
  go_wp2_with fail
  refine (int_x o 65536 T _ (p4 T) rfl _ hst3 HTL.out (by omega)).mono ?_
  rintro e w6 ⟨hk, rfl, hst4⟩
  have hs6 := hk.size
  have hK6 := hK5.trans (keeps_below hk (by omega))
  clear hk hK5 hst3
  obtain ⟨V1, hV1⟩ : ∃ V, V = str (p1 T).1 := ⟨_, rfl⟩
  obtain ⟨V2, hV2⟩ : ∃ V : Int, V = ((p2 T).1 : Nat) := ⟨_, rfl⟩
  obtain ⟨V3, hV3⟩ : ∃ V : Int, V = ((p3 T).1 : Nat) := ⟨_, rfl⟩
  obtain ⟨V4, hV4⟩ : ∃ V : Int, V = ((p4 T).1 : Nat) := ⟨_, rfl⟩
  rw [← hV1, ← hV2, ← hV3, ← hV4]
  have HV1 := Lib.hid hV1
  have HV2 := Lib.hid hV2
  have HV3 := Lib.hid hV3
  have HV4 := Lib.hid hV4
  clear hV1 hV2 hV3 hV4
  go_wp2_with fail
  obtain ⟨M, hM⟩ : ∃ M, M = w6.heap.size := ⟨_, rfl⟩
  obtain ⟨w7, hw7⟩ : ∃ w7, w7 = w6.alloc (.cells #[.string V1, .int .u64 V2, .int .i64 V3, .int .i64 V4, .string ⟨#[]⟩, .int .i64 0, .slice none 0 0] 29) := ⟨_, rfl⟩
  have hoM : o < M := by omega
  have hs7 : w7.heap.size = M + 1 := by rw [hw7, hM]; simp
  have hst7 : St w7 o (str T) (p4 T).2 := by rw [hw7]; exact hst4.keeps (Below.heap_alloc _ _ _ (by omega))
  have hK7 : Below o w1 w7 := by rw [hw7]; exact hK6.alloc (by omega) _
  have hm7 : w7.heap[M]? = some (.cells #[.string V1, .int .u64 V2, .int .i64 V3, .int .i64 V4, .string ⟨#[]⟩, .int .i64 0, .slice none 0 0] 29 (0, 0)) := by
    rw [hw7, hM]; exact heap_alloc_new w6 _
  rw [← hw7, ← hM]
  have HM := Lib.hid hM
  clear hw7 hM hK6 hst4 hs2 hs3 hs4 hs5 hs6
  refine (text_x o T _ (p5 T) rfl _ hst7 HTL.out).mono ?_
  rintro e w8 ⟨hk, rfl, hst8⟩
  have hs8 := hk.size
  have hK8 := hK7.trans (keeps_below hk (by omega))
  have hm8 := keeps_at hk hm7 (by omega)
  clear hk hK7 hst7 hm7
  go_wp2_with fail
  refine (int_x o 1099511627776 T _ (p6 T) rfl _ hst8 HTL.out (by omega)).mono ?_
  rintro e w9 ⟨hk, rfl, hst9⟩
  have hs9 := hk.size
  have hK9 := hK8.trans (keeps_below hk (by omega))
  have hm9 := keeps_at hk hm8 (by omega)
  clear hk hK8 hst8 hm8
  obtain ⟨V5, hV5⟩ : ∃ V, V = str (p5 T).1 := ⟨_, rfl⟩
  obtain ⟨V6, hV6⟩ : ∃ V : Int, V = ((p6 T).1 : Nat) := ⟨_, rfl⟩
  rw [← hV5, ← hV6]
  have HV5 := Lib.hid hV5
  have HV6 := Lib.hid hV6
  clear hV5 hV6
  have k4 := cell_of_heap hm9 4
  have k5 := cell_of_heap hm9 5
  have f := frozen_of_heap hm9
  simp only [List.getElem?_toArray, List.getElem?_cons_zero, List.getElem?_cons_succ] at k4 k5
  have HM9 := Lib.hid hm9
  clear hm9
  go_wp2_with fail
  obtain ⟨w10, hw10⟩ : ∃ w10, w10 = (w9.setCell ⟨M, 4, none⟩ (.string V5)).setCell ⟨M, 5, none⟩ (.int .i64 V6) := ⟨_, rfl⟩
  have hk10 : KeepsBut (fun k => k = M) w9 w10 := by rw [hw10]; exact (ks _ _ _ _).trans (ks _ _ _ _)
  have hm10 : w10.heap[M]? = some (.cells #[.string V1, .int .u64 V2, .int .i64 V3, .int .i64 V4, .string V5, .int .i64 V6, .slice none 0 0] 29 (0, 0)) := by
    rw [hw10, heap_setCell_same _ M 5 #[.string V1, .int .u64 V2, .int .i64 V3, .int .i64 V4, .string V5, .int .i64 0, .slice none 0 0] 29 _ (heap_setCell_same _ M 4 _ 29 _ HM9.out)]; rfl
  rw [← hw10]
  have hst10 := hst9.keeps (hk10.block o (by omega) (by omega))
  have hs10 := hk10.size
  have hK10 := hK9.trans (hk10.below (n := o) (fun k e => by omega) (by omega))
  clear hw10 hk10 hst9 hK9 k4 k5 f HM9
  refine (int_x o 100 T _ (p7 T) rfl _ hst10 HTL.out (by omega)).mono ?_
  rintro e w11 ⟨hk, rfl, hst11⟩
  have hs11 := hk.size
  have hK11 := hK10.trans (keeps_below hk (by omega))
  have hm11 := keeps_at hk hm10 (by omega)
  have hn : (p7 T).1 ≤ 100 := rd_int_le _ _ _
  obtain ⟨n, hN⟩ : ∃ n, n = (p7 T).1 := ⟨_, rfl⟩
  obtain ⟨st, hST⟩ : ∃ st, st = (p7 T).2 := ⟨_, rfl⟩
  rw [← hN] at hn ⊢
  rw [← hST] at hst11
  have HN := Lib.hid hN
  have HST := Lib.hid hST
  clear hk hK10 hst10 hm10 hN hST
  go_wp2
  go_loopw [43] (fun i wr => ∃ (k : Nat) (v : Value), i = .int .i64 k ∧ k ≤ n ∧ St wr o (str T) (rsnaps T k st).2 ∧
    wr.heap[M]? = some (.cells #[.string V1, .int .u64 V2, .int .i64 V3, .int .i64 V4, .string V5, .int .i64 V6, v] 29 (0, 0)) ∧
    wr.ownsRow (M + 1) 56 3 v k (rowVals (rsnaps T k st).1) ∧ Below o w1 wr ∧ M < wr.heap.size) (fun i _ => n - (intOf i).toNat)
  case atStart => exact ⟨0, .slice none 0 0, rfl, by omega, hst11, hm11, World.ownsRow_nil _ _ _ _, hK11, by omega⟩
  case round =>
    obtain ⟨k, v, rfl, hkn, hst, hm, hown, hbr, hMr⟩ := hrel
    by_cases hlt : k < n
    · obtain ⟨pA, hpA⟩ : ∃ p, p = rd [] (rtext 64) T (rsnaps T k st).2 := ⟨_, rfl⟩
      obtain ⟨pB, hpB⟩ : ∃ p, p = rd 0 (rint 1099511627776) T pA.2 := ⟨_, rfl⟩
      obtain ⟨pC, hpC⟩ : ∃ p, p = rd 0 (rint 1099511627776) T pB.2 := ⟨_, rfl⟩
      have hR1 : rowVals (rsnaps T (k + 1) st).1 = rowVals (rsnaps T k st).1 ++ [.string (str pA.1), .int .i64 (pB.1 : Nat), .int .i64 (pC.1 : Nat)] := by
        show rowVals ((rsnaps T k st).1 ++ [(rsnap T (rsnaps T k st).2).1]) = _
        rw [rowVals_append]
        subst hpC hpB hpA
        rfl
      have hR2 : (rsnaps T (k + 1) st).2 = pC.2 := by
        subst hpC hpB hpA
        rfl
      have HA := Lib.hid hpA
      have HBB := Lib.hid hpB
      have HC := Lib.hid hpC
      have HR1 := Lib.hid hR1
      have HR2 := Lib.hid hR2
      have hc := cell_of_heap hm 6
      have hf := frozen_of_heap hm
      simp only [List.getElem?_toArray, List.getElem?_cons_zero, List.getElem?_cons_succ] at hc
      have HMM := Lib.hid hm
      generalize hrow : rowVals (rsnaps T k st).1 = row at *
      generalize hstk : (rsnaps T k st).2 = stk at *
      have hsz : (k + 1) * 32 ≤ 140737488355328 := by omega
      have hmx : k + 1 ≤ maxLen := by simp [maxLen]; omega
      have HSZ := Lib.hid hsz
      have HMX := Lib.hid hmx
      clear hpA hpB hpC hR1 hR2 hm hrow hstk hsz hmx
      go_wp2_with fail
      go_region_law
        ((first
          | (refine step_append_lies _ (by rfl) _ _ _ (by rfl) (M + 1) 56 i0 _ 3 32 Try.underlying27 hi hz0 hz1 hz2 rfl (by omega) v k row (by rfl) (hown3.alloc _)
              ⟨a3.heap.size, 0, none⟩ 1 1 [.string (str pA.1), .int .i64 (pB.1 : Nat), .int .i64 (pC.1 : Nat)] (by rfl) (by rfl) (World.news_of_block (cs := #[.string (str pA.1), .int .i64 (pB.1 : Nat), .int .i64 (pC.1 : Nat)]) (t := 56) (fr := (0, 0)) (heap_alloc_new a3 _)) (by simp [Value.oneCell'])
              (by omega) HMX.out HSZ.out (by simp; omega) (a3.heap.size + 1) (by simp) ?_; intro gg cap a4 hown4 hgrow hat hlt4
             have hz4 : a3.heap.size + 1 ≤ a4.heap.size := by have := hgrow.size; simpa using this
             have hm4 := (hgrow.block M (by simp; omega) (fun e => by have := (hown.lt M e.symm).1; omega)).trans ((Below.heap_alloc a3 _ M (by omega)).trans (keeps_at hq3 HMM.out (by omega)))
             have hc4 : a4.cell? ⟨M, 6, none⟩ = some v := cell_of_heap hm4 6
             have hf4 : a4.frozen? ⟨M, 6, none⟩ = false := frozen_of_heap hm4 6)
          | (go_simp; go_at_call 29; refine (text_x o T _ pA HA.out _ ?_ HTL.out).mono ?_; (exact hst); rintro e a1 ⟨hk1, rfl, hst1⟩
             have hq1 : KeepsBut (fun j => j = o) wr a1 := ⟨hk1.os, hk1.tape, hk1.output, hk1.size, hk1.block⟩
             have hc1 : a1.cell? ⟨M, 6, none⟩ = some v := (hq1.cell (p := ⟨M, 6, none⟩) hMr (by show ¬ M = o; omega)).trans hc)
          | (go_simp; go_at_call 31; refine (int_x o 1099511627776 T _ pB HBB.out a1 ?_ HTL.out (by omega)).mono ?_; (exact hst1); rintro e a2 ⟨hk2, rfl, hst2⟩
             have hq2 := hq1.trans hk2
             have hc2 : a2.cell? ⟨M, 6, none⟩ = some v := (hq2.cell (p := ⟨M, 6, none⟩) hMr (by show ¬ M = o; omega)).trans hc)
          | (go_simp; go_at_call 31; refine (int_x o 1099511627776 T _ pC HC.out a2 ?_ HTL.out (by omega)).mono ?_; (exact hst2); rintro e a3 ⟨hk3, rfl, hst3⟩
             have hq3 := hq2.trans hk3
             have hs3 := hq3.size
             have hc3 : a3.cell? ⟨M, 6, none⟩ = some v := (hq3.cell (p := ⟨M, 6, none⟩) hMr (by show ¬ M = o; omega)).trans hc
             have hc5 : ∀ x : Obj, (a3.alloc x).cell? ⟨M, 6, none⟩ = some v := fun x => (World.cell?_of_block (w := a3) (w' := a3.alloc x) (a := ⟨M, 6, none⟩) (Below.heap_alloc a3 x M (by omega))).trans hc3
             have hown3 := row_kept hown hq3 (fun j e1 e2 => by have := hown.lt j e1; omega))))
      all_goals
        have HQ : Hid (∃ v', v' = Value.slice (some ⟨gg, 0, none⟩) (k + 1) cap ∧ St (a4.setCell ⟨M, 6, none⟩ v') o (str T) (rsnaps T (k + 1) st).2 ∧
            (a4.setCell ⟨M, 6, none⟩ v').heap[M]? = some (.cells #[.string V1, .int .u64 V2, .int .i64 V3, .int .i64 V4, .string V5, .int .i64 V6, v'] 29 (0, 0)) ∧
            (a4.setCell ⟨M, 6, none⟩ v').ownsRow (M + 1) 56 3 v' (k + 1) (rowVals (rsnaps T (k + 1) st).1) ∧ Below o w1 (a4.setCell ⟨M, 6, none⟩ v') ∧ M < (a4.setCell ⟨M, 6, none⟩ v').heap.size) := by
          refine ⟨_, rfl, ?_, ?_, ?_, ?_, ?_⟩
          · rw [HR2.out]
            refine hst3.keeps ?_
            rw [Below.heap_setCell _ _ _ _ (by show o ≠ M; omega), hgrow.block o (by simp; omega) (fun e => by have := (hown.lt o e.symm).1; omega)]
            exact Below.heap_alloc a3 _ o (by omega)
          · rw [heap_setCell_same _ M 6 _ 29 _ hm4]; rfl
          · rw [HR1.out]
            exact row_kept hown4 (ks _ M 6 _) (fun j e1 e2 => by
              rcases hat with e | e
              · have := (hown.lt gg e).1; cases e1; simp at e2; omega
              · cases e1; simp at e2; omega)
          · have h1 : Below o w1 a3 := hbr.trans (keeps_below hq3 (by omega))
            have h2 : Below o w1 a4 := ⟨hgrow.os.trans h1.os, hgrow.tape.trans h1.tape, hgrow.output.trans h1.output, by have := h1.size; omega, fun j hj => by
              rw [hgrow.block j (by simp; omega) (fun e => by have := (hown.lt j e.symm).1; omega)]
              exact (Below.heap_alloc a3 _ j (by omega)).trans (h1.block j hj)⟩
            exact h2.trans (keeps_below (o := M) (ks _ M 6 _) (by omega) |>.mono (by omega))
          · have : (a4.setCell ⟨M, 6, none⟩ (Value.slice (some ⟨gg, 0, none⟩) (k + 1) cap)).heap.size = a4.heap.size := by simp [World.setCell]
            rw [this]; omega
        clear hq1 hq2 hq3 hst1 hst2 hst3 hk1 hk2 hk3 hc1 hc2 hc3 hown3 hown4 hgrow hat hlt4 hm4 hbr hst hown hc hf
        go_wp2
        go_roundw
        case rel =>
          obtain ⟨v', rfl, q1, q2, q3, q4, q5⟩ := HQ.out
          exact ⟨k + 1, _, by go_num, by omega, q1, q2, q3, q4, q5⟩
        case measure => simp [intOf]; omega
    · obtain rfl : k = n := by omega
      obtain ⟨va, vc, rfl⟩ := owns_slice hown
      have HOWN := Lib.hid hown
      have hE : (rsnaps T k st).2 = pend T := by unfold pend; rw [← HN.out, ← HST.out]
      have hL : (rsnaps T k st).1.length = k := rsnaps_length _ _ _
      have hSn : SnapsAt wr (.slice va k vc) (rsnaps T k st).1 := snaps_of_row (base := M + 1) (by rw [hL]; exact hown)
      have hP : pman T = ⟨V1, V2, V3, V4, V5, V6, (rsnaps T k st).1⟩ := by
        rw [HV1.out, HV2.out, HV3.out, HV4.out, HV5.out, HV6.out, HN.out, HST.out]; rfl
      have HCK : Hid (∀ w', (∃ m, w' = wr.drewN m) → Calls Try.prog 33 #[.agg #[.string V1, .int .u64 V2, .int .i64 V3, .int .i64 V4, .string V5, .int .i64 V6, .slice va k vc]] w' fun e w'' => e = .returned (.int .i64 (chk (pman T))) ∧ Below w'.heap.size w' w'') := fun w' ⟨m, hm'⟩ => by
        have hS' : SnapsAt w' (.slice va k vc) (rsnaps T k st).1 := by rw [hm']; exact hSn
        have := check_any (pman T) (.slice va k vc) w' (pman_fits T HTL.out) (by rw [hP]; exact hS')
        rw [hP] at this ⊢
        exact this
      have hx' : wr.heap[w.heap.size]? = some (.cells #[.string ⟨#[]⟩, .int .u64 0, .int .i64 0, .int .i64 0, .string ⟨#[]⟩, .int .i64 0, .slice none 0 0] 29 (0, 0)) := (hbr.block _ hBo).trans HX.out
      have HBW : Hid (Below w.heap.size w wr) := HB.out.trans (hbr.mono (by omega))
      have HX' := Lib.hid hx'
      have HM' := Lib.hid hm
      have HSN := Lib.hid hSn
      have HPM := Lib.hid hP
      have HR : Hid (∀ (q : Man × Int) (sv : Value) (W W' : World), manRes T = q → (∃ m, W = wr.drewN m) → SnapsAt W sv q.1.snaps → Below W.heap.size W W' → True) := fun _ _ _ _ _ _ _ _ => trivial
      have hD := done_st o (str T) _ wr hst (by rw [str_size]; exact HTL.out)
      rw [hE, str_size] at hD
      have HD := Lib.hid hD
      by_cases hq : pend T = some T.length
      · by_cases hch : chk (pman T) = 0
        · have hres : manRes T = (pman T, 0) := if_pos ⟨hq, hch⟩
          have HRES := Lib.hid hres
          have HQ := Lib.hid hq
          have HM9 := hm
          have m0 := cell_of_heap HM9 0
          have m1 := cell_of_heap HM9 1
          have m2 := cell_of_heap HM9 2
          have m3 := cell_of_heap HM9 3
          have m4 := cell_of_heap HM9 4
          have m5 := cell_of_heap HM9 5
          have m6 := cell_of_heap HM9 6
          simp only [List.getElem?_toArray, List.getElem?_cons_zero, List.getElem?_cons_succ] at m0 m1 m2 m3 m4 m5 m6
          clear hD hE hL hSn hP hres hq hst hm hown hbr HM9 hx'
          go_wp2_with fail
          refine HD.out.mono ?_
          rintro e w20 ⟨⟨m, rfl⟩, c, rfl, hc⟩
          obtain rfl : c = 0 := hc.mpr HQ.out
          clear hc
          rw [hch] at HCK
          go_wp2_with fail
          refine (HCK.out _ ⟨m, rfl⟩).mono ?_
          rintro e w21 ⟨rfl, hb21⟩
          have hx' : w21.heap[w.heap.size]? = some (.cells #[.string ⟨#[]⟩, .int .u64 0, .int .i64 0, .int .i64 0, .string ⟨#[]⟩, .int .i64 0, .slice none 0 0] 29 (0, 0)) := (hb21.block _ (World.lt_of_heap HX'.out)).trans HX'.out
          have hm21 : w21.heap[M]? = some (.cells #[.string V1, .int .u64 V2, .int .i64 V3, .int .i64 V4, .string V5, .int .i64 V6, .slice va k vc] 29 (0, 0)) := (hb21.block _ (World.lt_of_heap HM'.out)).trans HM'.out
          have HB21 := Lib.hid hb21
          have HX21 := Lib.hid hx'
          have k0 := cell_of_heap hx' 0
          have k1 := cell_of_heap hx' 1
          have k2 := cell_of_heap hx' 2
          have k3 := cell_of_heap hx' 3
          have k4 := cell_of_heap hx' 4
          have k5 := cell_of_heap hx' 5
          have k6 := cell_of_heap hx' 6
          have f := frozen_of_heap hx'
          simp only [List.getElem?_toArray, List.getElem?_cons_zero, List.getElem?_cons_succ] at k0 k1 k2 k3 k4 k5 k6
          have m0 := cell_of_heap hm21 0
          have m1 := cell_of_heap hm21 1
          have m2 := cell_of_heap hm21 2
          have m3 := cell_of_heap hm21 3
          have m4 := cell_of_heap hm21 4
          have m5 := cell_of_heap hm21 5
          have m6 := cell_of_heap hm21 6
          simp only [List.getElem?_toArray, List.getElem?_cons_zero, List.getElem?_cons_succ] at m0 m1 m2 m3 m4 m5 m6
          clear hb21 hx' hm21
          go_wp2
          obtain ⟨g1, g2⟩ := seven HX21.out (.string V1) (.int .u64 V2) (.int .i64 V3) (.int .i64 V4) (.string V5) (.int .i64 V6) (.slice va k vc)
          have hB := (((keeps_drewN (fun k => k = w.heap.size) wr m).trans (.of_below HB21.out)).trans g2).below (n := w.heap.size) (fun k e => by omega) HBW.out.size
          refine leaveB (res8 g1 rfl rfl) ?_
          rw [HRES.out]
          refine ⟨.slice va k vc, by rw [HPM.out]; rfl, ?_, HBW.out.trans hB⟩
          rw [HPM.out]
          have r1 := row_kept (w := wr.drewN m) HOWN.out (KeepsBut.of_below (X := fun _ => False) HB21.out) (fun _ _ => id)
          have r2 := row_kept r1 g2 (fun j e1 e2 => by have := (r1.lt j e1).1; omega)
          exact snaps_of_row (base := M + 1) (by rw [rsnaps_length]; exact r2)
        · have hres : manRes T = (Man.zero, 12) := if_neg (fun e => hch e.2)
          have HRES := Lib.hid hres
          have HQ := Lib.hid hq
          have HM9 := hm
          have m0 := cell_of_heap HM9 0
          have m1 := cell_of_heap HM9 1
          have m2 := cell_of_heap HM9 2
          have m3 := cell_of_heap HM9 3
          have m4 := cell_of_heap HM9 4
          have m5 := cell_of_heap HM9 5
          have m6 := cell_of_heap HM9 6
          simp only [List.getElem?_toArray, List.getElem?_cons_zero, List.getElem?_cons_succ] at m0 m1 m2 m3 m4 m5 m6
          clear hD hE hL hSn hP hres hq hst hm hown hbr HM9 hx'
          go_wp2_with fail
          refine HD.out.mono ?_
          rintro e w20 ⟨⟨m, rfl⟩, c, rfl, hc⟩
          obtain rfl : c = 0 := hc.mpr HQ.out
          clear hc
          have hcn : (chk (pman T) != 0) = true := by rw [bne_iff_ne]; exact hch
          go_wp2_with fail
          refine (HCK.out _ ⟨m, rfl⟩).mono ?_
          rintro e w21 ⟨rfl, hb21⟩
          have hx' : w21.heap[w.heap.size]? = some (.cells #[.string ⟨#[]⟩, .int .u64 0, .int .i64 0, .int .i64 0, .string ⟨#[]⟩, .int .i64 0, .slice none 0 0] 29 (0, 0)) := (hb21.block _ (World.lt_of_heap HX'.out)).trans HX'.out
          have hm21 : w21.heap[M]? = some (.cells #[.string V1, .int .u64 V2, .int .i64 V3, .int .i64 V4, .string V5, .int .i64 V6, .slice va k vc] 29 (0, 0)) := (hb21.block _ (World.lt_of_heap HM'.out)).trans HM'.out
          have HB21 := Lib.hid hb21
          have HX21 := Lib.hid hx'
          have k0 := cell_of_heap hx' 0
          have k1 := cell_of_heap hx' 1
          have k2 := cell_of_heap hx' 2
          have k3 := cell_of_heap hx' 3
          have k4 := cell_of_heap hx' 4
          have k5 := cell_of_heap hx' 5
          have k6 := cell_of_heap hx' 6
          have f := frozen_of_heap hx'
          simp only [List.getElem?_toArray, List.getElem?_cons_zero, List.getElem?_cons_succ] at k0 k1 k2 k3 k4 k5 k6
          clear hb21 hx' hm21
          go_wp2
          obtain ⟨g1, g2⟩ := seven HX21.out (.string ⟨#[]⟩) (.int .u64 0) (.int .i64 0) (.int .i64 0) (.string ⟨#[]⟩) (.int .i64 0) (.slice none 0 0)
          exact leaveB (res8 g1 rfl rfl) (by rw [HRES.out]; exact manPost_zero 12 (HBW.out.trans ((((keeps_drewN _ wr m).trans (.of_below HB21.out)).trans g2).below (fun k e => by omega) HBW.out.size)))
      · have hres : manRes T = (Man.zero, 12) := if_neg (fun e => hq e.1)
        have HRES := Lib.hid hres
        have HQ := Lib.hid hq
        have k0 := cell_of_heap hx' 0
        have k1 := cell_of_heap hx' 1
        have k2 := cell_of_heap hx' 2
        have k3 := cell_of_heap hx' 3
        have k4 := cell_of_heap hx' 4
        have k5 := cell_of_heap hx' 5
        have k6 := cell_of_heap hx' 6
        have f := frozen_of_heap hx'
        simp only [List.getElem?_toArray, List.getElem?_cons_zero, List.getElem?_cons_succ] at k0 k1 k2 k3 k4 k5 k6
        clear hD hE hL hSn hP hx' hres hq hst hm hown hbr
        go_wp2_with fail
        refine HD.out.mono ?_
        rintro e w20 ⟨⟨m, rfl⟩, c, rfl, hc⟩
        have hcn : (c != 0) = true := by rw [bne_iff_ne]; exact fun e => HQ.out (hc.mp e)
        clear hc
        go_wp2
        obtain ⟨g1, g2⟩ := seven (w := wr.drewN m) HX'.out (.string ⟨#[]⟩) (.int .u64 0) (.int .i64 0) (.int .i64 0) (.string ⟨#[]⟩) (.int .i64 0) (.slice none 0 0)
        exact leaveB (res8 g1 rfl rfl) (by rw [HRES.out]; exact manPost_zero 12 (HBW.out.trans (((keeps_drewN _ wr m).trans g2).below (fun k e => by omega) HBW.out.size)))
end Go.Proofs.Ytmkcphelmgkipaa

namespace Go.Proofs.Ytmkcphelmgkipaa
open Go.RowKit
attribute [local go_sem ↓] Go.wp_at_zero Go.wp_at_succ

theorem opened_le (l : List UInt8) : (opened l).1.length ≤ l.length := by
  unfold opened
  repeat' split
  all_goals simp

theorem prefix_four {A : List UInt8} (h : Lib.hasPrefix A [77, 65, 78, 50] = true) : 4 ≤ A.length ∧ A = [77, 65, 78, 50] ++ A.drop 4 := by
  have : [77, 65, 78, 50] <+: A := by simpa [Lib.hasPrefix] using h
  obtain ⟨t, rfl⟩ := this
  simp

theorem decode_any (s : ByteArray) (w : World) (hs : s.size ≤ 140737488351232) : Calls Try.prog 8 #[.string s] w (ManPost (dman s.data.toList) w) := by
  cases ho : opened s.data.toList with
  | mk A c =>
    unfold dman
    rw [ho]
    by_cases hc : c = 0
    · subst hc
      simp only [ne_eq, not_true_eq_false, if_false]
      by_cases hp : Lib.hasPrefix A [77, 65, 78, 50] = true
      · rw [if_neg (by rw [hp]; simp)]
        have hl := opened_le s.data.toList
        rw [ho] at hl
        exact decode_main s w hs ho hp (prefix_four hp).1 (by simpa using hl) rfl
      · rw [if_pos (by simpa using hp)]
        exact decode_kind s w hs ho (by simpa using hp)
    · rw [if_pos hc]
      exact decode_bad s w hs ho hc

theorem hd_step : ∀ k : Fin 9, 1 ≤ k.val → hd (k.val + 1) = hd k.val + 256 / 2 ^ k.val := by decide +kernel
theorem hd_le (k : Nat) : hd k ≤ 256 := Nat.sub_le _ _

set_option maxHeartbeats 1000000 in
set_option maxRecDepth 100000 in
theorem rhead_any (n : Nat) (h1 : 1 ≤ n) (h9 : n ≤ 9) (w : World) :
    Calls Try.prog 85 #[.int .i64 n] w fun e w' => e = .returned (.int .i64 (hd n : Nat)) ∧ w = w' := by
  go_enter Try.func85, Try.ntmps85
  go_wp2
  go_loopw [3, 4, 5] (fun b u i wr => ∃ k : Nat, i = .int .i64 k ∧ b = .int .i64 (hd k : Nat) ∧ u = .int .i64 (256 / 2 ^ k : Nat) ∧ 1 ≤ k ∧ k ≤ n ∧ wr = w) (fun _ _ i _ => n - (intOf i).toNat)
  case atStart => exact ⟨1, rfl, rfl, rfl, by omega, h1, rfl⟩
  case round =>
    obtain ⟨k, rfl, rfl, rfl, hk1, hkn, rfl⟩ := hrel
    have hb := hd_le k
    have hu : 256 / 2 ^ k ≤ 256 := Nat.div_le_self _ _
    by_cases hlt : k < n
    · have hs := hd_step ⟨k, by omega⟩ hk1
      have hs2 : 256 / 2 ^ (k + 1) = 256 / 2 ^ k / 2 := by rw [Nat.pow_succ, Nat.div_div_eq_div_mul]
      simp only at hs
      have HS := Lib.hid hs
      have HS2 := Lib.hid hs2
      clear hs hs2
      generalize hq : 256 / 2 ^ k = q at *
      generalize hr : hd k = r at *
      clear hq hr
      go_wp2
      go_roundw
      case rel =>
        refine ⟨k + 1, by go_num, ?_, ?_, by omega, by omega, trivial⟩
        · rw [HS.out]; go_num
        · rw [HS2.out]; go_num
      case measure => simp [intOf]; omega
    · obtain rfl : k = n := by omega
      go_wp2
      go_ret
      exact ⟨rfl, rfl⟩

theorem vsz_of (x k : Nat) (h1 : 1 ≤ k) (h9 : k ≤ 9) (hl : k = 1 ∨ 128 ^ (k - 1) ≤ x) (hh : k = 9 ∨ x < 128 ^ k) : vsz x = k := by
  have : k = 1 ∨ k = 2 ∨ k = 3 ∨ k = 4 ∨ k = 5 ∨ k = 6 ∨ k = 7 ∨ k = 8 ∨ k = 9 := by omega
  rcases this with h | h | h | h | h | h | h | h | h <;> subst h <;> simp only [Nat.reduceSub, Nat.reducePow] at hl hh <;> unfold vsz <;> (repeat' split) <;> omega

set_option maxHeartbeats 1000000 in
set_option maxRecDepth 100000 in
theorem rsize_any (x : Nat) (hx : x < 18446744073709551616) (w : World) :
    Calls Try.prog 86 #[.int .u64 x] w fun e w' => e = .returned (.int .i64 (vsz x : Nat)) ∧ w = w' := by
  go_enter Try.func86, Try.ntmps86
  go_wp2
  go_loopw [3, 4] (fun i m wr => ∃ k : Nat, i = .int .i64 k ∧ m = .int .u64 (128 ^ min k 8 : Nat) ∧ 1 ≤ k ∧ k ≤ 9 ∧ (k = 1 ∨ 128 ^ (k - 1) ≤ x) ∧ wr = w) (fun i _ _ => 9 - (intOf i).toNat)
  case atStart => exact ⟨1, rfl, rfl, by omega, by omega, .inl rfl, rfl⟩
  case round =>
    obtain ⟨k, rfl, rfl, hk1, hk9, hl, rfl⟩ := hrel
    have hm8 : 128 ^ min k 8 ≤ 128 ^ 8 := Nat.pow_le_pow_right (by omega) (by omega)
    have HL := Lib.hid hl
    clear hl
    by_cases hlt : k < 9
    · have hmk : min k 8 = k := by omega
      rw [hmk] at hm8 ⊢
      have HP : Hid (k < 8 → 128 ^ (k + 1) = 128 * 128 ^ k ∧ 128 ^ k ≤ 72057594037927936 / 128) := fun h => ⟨by rw [Nat.pow_succ, Nat.mul_comm], by
        have : 128 ^ k ≤ 128 ^ 7 := Nat.pow_le_pow_right (by omega) (by omega)
        omega⟩
      generalize hq : 128 ^ k = q at *
      have HQ := Lib.hid hq
      clear hq
      by_cases hge : q ≤ x
      · by_cases h8 : k < 8
        · obtain ⟨hp1, hp2⟩ := HP.out h8
          have HP1 := Lib.hid hp1
          clear hp1
          go_wp2
          go_roundw
          case rel =>
            refine ⟨k + 1, by go_num, ?_, by omega, by omega, .inr (by rw [Nat.add_sub_cancel, HQ.out]; exact hge), trivial⟩
            rw [show min (k + 1) 8 = k + 1 by omega, HP1.out]; go_num
          case measure => simp [intOf]; omega
        · obtain rfl : k = 8 := by omega
          go_wp2
          go_roundw
          case rel =>
            refine ⟨9, by go_num, ?_, by omega, by omega, .inr (by rw [HQ.out]; exact hge), trivial⟩
            rw [show min 9 8 = 8 by omega, HQ.out]
          case measure => simp [intOf]
      · have HV := Lib.hid (vsz_of x k hk1 hk9 HL.out (.inr (by rw [HQ.out]; omega)))
        go_wp2
        go_ret
        exact ⟨by rw [HV.out]; rfl, rfl⟩
    · obtain rfl : k = 9 := by omega
      have HV := Lib.hid (vsz_of x 9 hk1 hk9 HL.out (.inl rfl))
      go_wp2
      go_ret
      exact ⟨by rw [HV.out]; rfl, rfl⟩
end Go.Proofs.Ytmkcphelmgkipaa

namespace Go.Proofs.Ytmkcphelmgkipaa
open Go.RowKit
attribute [local go_sem ↓] Go.wp_at_zero Go.wp_at_succ

theorem few_lt (c : Nat) (hc : c < 256) (l : List UInt8) (hl : l.length ≤ lead c - 1) : beFrom (if lead c = 9 then 0 else c - hd (lead c)) l < 18446744073709551616 := by
  have hlt := beFrom_lt l
  rw [beFrom_eq]
  have hb := lead_bd c
  by_cases h9 : lead c = 9
  · rw [if_pos h9, Nat.zero_mul, Nat.zero_add]
    have : 256 ^ l.length ≤ 256 ^ 8 := Nat.pow_le_pow_right (by omega) (by omega)
    simp only [Nat.reducePow] at this
    omega
  · rw [if_neg h9]
    have hlh := lead_hd _ hc h9
    have e256 : (256 : Nat) ^ l.length = 2 ^ (8 * l.length) := by rw [Nat.pow_mul]
    have h1 : (c - hd (lead c)) * 256 ^ l.length + 256 ^ l.length ≤ 2 ^ (8 - lead c) * 256 ^ l.length := by
      rw [← Nat.succ_mul]; exact Nat.mul_le_mul_right _ hlh.2
    have h2 : 2 ^ (8 - lead c) * 256 ^ l.length ≤ 2 ^ 56 := by
      rw [e256, ← Nat.pow_add]; exact Nat.pow_le_pow_right (by omega) (by omega)
    simp only [Nat.reducePow] at h2
    omega

theorem lead_is : ∀ c : Fin 256, ∀ k : Fin 10, 1 ≤ k.val → (k.val = 1 ∨ hd k.val ≤ c.val) → (k.val = 9 ∨ c.val < hd (k.val + 1)) → lead c.val = k.val := by decide +kernel
theorem lead_hd' : ∀ c : Fin 256, hd (lead c.val) ≤ c.val := by decide +kernel

theorem rhead_int (x : Int) (n : Nat) (hx : x = n) (h1 : 1 ≤ n) (h9 : n ≤ 9) (w : World) :
    Calls Try.prog 85 #[.int .i64 x] w fun e w' => e = .returned (.int .i64 (hd n : Nat)) ∧ w = w' := by
  subst hx; exact rhead_any n h1 h9 w

theorem rhead_q (x : Int) (n : Nat) (hx : x = n) (h1 : 1 ≤ n) (h9 : n ≤ 9) (w : World) :
    Calls Try.prog 85 #[.int .i64 x] w fun e w' => e = .returned (.int .i64 (hd n : Nat)) ∧ w' = w :=
  (rhead_int x n hx h1 h9 w).mono (fun e w' h => ⟨h.1, h.2.symm⟩)

def Drew (w w' : World) : Prop := ∃ m, w' = w.drewN m
theorem Drew.refl (w : World) : Drew w w := ⟨0, rfl⟩
theorem Drew.more {w w' : World} (h : Drew w w') (n : Nat) : Drew w (w'.drewN n) := by
  obtain ⟨m, rfl⟩ := h
  exact ⟨m + n, World.drewN_drewN _ _ _⟩
theorem Drew.one {w w' : World} (h : Drew w w') : Drew w w'.drew := h.more 1
theorem Drew.keeps {w w' : World} (h : Drew w w') (X : Nat → Prop) : KeepsBut X w w' := by
  obtain ⟨m, rfl⟩ := h
  exact keeps_drewN X w m

def FewPost (s : ByteArray) (w : World) (e : Ending) (w' : World) : Prop :=
  Drew w w' ∧ ∃ x n : Nat, ∃ c : Int, e = .returned (.tuple #[.int .u64 x, .int .i64 n, .int .i64 c]) ∧
    ((rvar s.data.toList = some (x, n) ∧ c = 0) ∨ (rvar s.data.toList = none ∧ x = 0 ∧ n = 0 ∧ c ≠ 0))

theorem drop1_snoc (s : ByteArray) (j : Nat) (h : j + 1 < s.size) : (s.data.toList.drop 1).take (j + 1) = (s.data.toList.drop 1).take j ++ [s[j + 1]] := by
  rw [List.take_add_one]
  congr 1
  rw [List.getElem?_drop, Nat.add_comm 1 j, List.getElem?_eq_getElem (by simpa using h)]
  rfl

theorem drop1_at (s : ByteArray) (j : Nat) (h1 : 1 ≤ j) (h : j < s.size) : (s.data.toList.drop 1).take j = (s.data.toList.drop 1).take (j - 1) ++ [s[j]] := by
  obtain ⟨i, rfl⟩ : ∃ i, j = i + 1 := ⟨j - 1, by omega⟩
  exact drop1_snoc s i h

set_option maxHeartbeats 1000000 in
set_option maxRecDepth 100000 in
theorem few_any (s : ByteArray) (w : World) (hs : s.size ≤ 140737488351232) : Calls Try.prog 71 #[.string s] w (FewPost s w) := by
  by_cases h0 : s.size = 0
  · have hse : s = ⟨#[]⟩ := by
      have : s.data.toList = [] := List.eq_nil_of_length_eq_zero (by simpa using h0)
      rw [← str_of s, this]; rfl
    subst hse
    clear h0 hs
    go_enter Try.func71, Try.ntmps71
    go_wp2
    go_ret3
    exact ⟨Drew.refl _, 0, 0, 10, rfl, .inr ⟨rfl, rfl, rfl, by decide⟩⟩
  · have hpos : 0 < s.size := by omega
    have hne : s.toList.isEmpty = false := by
      rw [ByteArray.toList_eq, List.isEmpty_eq_false_iff]
      intro e
      have : s.data.toList.length = s.size := by simp
      rw [e] at this
      simp at this
      omega
    obtain ⟨c, hc⟩ : ∃ c, c = s[0].toNat := ⟨_, rfl⟩
    have hcb : c < 256 := by rw [hc]; exact UInt8.toNat_lt s[0]
    have hra := rvar_at s 0 hpos
    rw [List.drop_zero, Nat.sub_zero, ← hc] at hra
    have hsaid : ∀ n, said s 0 n = beFrom (if n = 9 then 0 else c - hd n) ((s.data.toList.drop 1).take (n - 1)) := fun n => by
      unfold said
      rw [Nat.zero_add, show (s.data.toList.getD 0 0) = s[0] by
        rw [List.getD_eq_getElem?_getD, List.getElem?_eq_getElem (by simpa using hpos)]; rfl, ← hc]
    have hlead := lead_bd c
    have HL : Hid (∀ k, 1 ≤ k → k ≤ 9 → (k = 1 ∨ hd k ≤ c) → (k = 9 ∨ c < hd (k + 1)) → lead c = k) := fun k a b => lead_is ⟨c, hcb⟩ ⟨k, by omega⟩ a
    have HRA := Lib.hid hra
    have HSAID := Lib.hid hsaid
    have HC := Lib.hid hc
    clear hra hsaid h0
    go_enter Try.func71, Try.ntmps71
    go_wp2
    go_loopw [5] (fun i wr => ∃ k : Nat, i = .int .i64 k ∧ 1 ≤ k ∧ k ≤ 9 ∧ Hid (k = 1 ∨ hd k ≤ c) ∧ Drew w wr) (fun i _ => 9 - (intOf i).toNat)
    case atStart => exact ⟨1, rfl, by omega, by omega, .inl rfl, Drew.refl w⟩
    case round =>
      obtain ⟨k, rfl, hk1, hk9, hkh, hdr⟩ := hrel
      have hw0 : IntKind.i64.wrap ((s[0].toNat : Nat) : Int) = ((s[0].toNat : Nat) : Int) := by rw [IntWalk.i64_in _ (by omega)]
      have hways : (k < 9 ∧ hd (k + 1) ≤ c) ∨ (k < 9 ∧ c < hd (k + 1)) ∨ k = 9 := by omega
      rcases hways with ⟨hlt, hge⟩ | ⟨hlt, hge⟩ | hk
      · have hb1 : decide ((k : Int) < 9) = true := by simp; omega
        have HW1 : Hid (IntKind.i64.wrap ((k : Int) + 1) = ((k + 1 : Nat) : Int)) := by show _ = _; rw [IntWalk.i64_in _ (by omega)]; omega
        have hd2 : decide (((hd (k + 1) : Nat) : Int) ≤ ((s[0].toNat : Nat) : Int)) = true := by rw [← hc]; simp; omega
        have hd3 : ((hd (k + 1) : Nat) : Int) ≤ IntKind.i64.wrap ((s[0].toNat : Nat) : Int) := by rw [hw0]; omega
        go_wp2_with fail
        go_region_with (go_at_call 85; refine (rhead_int _ (k + 1) (by first | exact HW1.out | omega) (by omega) (by omega) _).mono ?_; rintro e w' ⟨rfl, rfl⟩)
        all_goals
          go_wp2
          go_roundw
          case rel => exact ⟨k + 1, by go_num, by omega, by omega, .inr hge, hdr.one⟩
          case measure => simp [intOf]; omega
      · have hk : lead c = k := HL.out k hk1 hk9 hkh.out (.inr hge)
        have hb1 : decide ((k : Int) < 9) = true := by simp; omega
        have HW1 : Hid (IntKind.i64.wrap ((k : Int) + 1) = ((k + 1 : Nat) : Int)) := by show _ = _; rw [IntWalk.i64_in _ (by omega)]; omega
        have hd2 : decide (((hd (k + 1) : Nat) : Int) ≤ ((s[0].toNat : Nat) : Int)) = false := by rw [← hc]; simp; omega
        have hd3 : IntKind.i64.wrap ((s[0].toNat : Nat) : Int) < ((hd (k + 1) : Nat) : Int) := by rw [hw0]; omega
        have h9 : k ≠ 9 := by omega
        have h9b : ((k : Int) == 9) = false := by rw [beq_eq_false_iff_ne]; omega
        have hd4 : decide (hd (k + 1) ≤ s[0].toNat) = false := by rw [← hc]; simp; omega
        go_wp2_with fail
        go_quiet (first | (go_at_call 85; refine Calls.quiet_of_same (rhead_q _ (k + 1) (by first | exact HW1.out | omega) (by omega) (by omega) _)))
        clear hb1 HW1 hd2 hd3
        try rw [hd4]
        clear hd4
        replace hdr := hdr.more nq
        generalize wr.drewN nq = wr at *
        by_cases hsz : s.size < k
        · have hn := HRA.out
          rw [hk, if_pos hsz] at hn
          have HN := Lib.hid hn
          clear hn
          go_wp2
          go_ret3
          exact ⟨hdr, 0, 0, 10, rfl, .inr ⟨HN.out, rfl, rfl, by decide⟩⟩
        · have hn := HRA.out
          rw [hk, if_neg hsz] at hn
          have HN := Lib.hid hn
          have hle := lead_hd' ⟨c, hcb⟩
          simp only [hk] at hle
          have hle2 : ((hd k : Nat) : Int) ≤ ((s[0].toNat : Nat) : Int) := by rw [← hc]; omega
          have hsub : IntKind.i64.wrap (((s[0].toNat : Nat) : Int) - ((hd k : Nat) : Int)) = ((c - hd k : Nat) : Int) := by rw [IntWalk.i64_in _ (by omega)]; omega
          have hub : IntKind.u64.wrap ((c - hd k : Nat) : Int) = ((c - hd k : Nat) : Int) := by rw [wrap_u64_eq]; omega
          have HF : Hid (∀ j, j ≤ k - 1 → beFrom (c - hd k) ((s.data.toList.drop 1).take j) < 18446744073709551616) := fun j hj => by
            have := few_lt c hcb ((s.data.toList.drop 1).take j) (by rw [hk, List.length_take]; omega)
            rw [hk, if_neg h9] at this
            exact this
          have HV : Hid (said s 0 k = beFrom (c - hd k) ((s.data.toList.drop 1).take (k - 1))) := by
            have := HSAID.out k
            rw [if_neg h9] at this
            exact this
          clear hn
          go_wp2_with fail
          go_quiet (first | (go_at_call 85; refine Calls.quiet_of_same (rhead_q _ k (by omega) (by omega) (by omega) _)))
          clear hsub hub hw0 hle
          go_wp2
          clear hle2
          go_loopw [6, 7] (fun x i wr => ∃ j : Nat, i = .int .i64 j ∧ 1 ≤ j ∧ j ≤ k ∧ x = .int .u64 (beFrom (c - hd k) ((s.data.toList.drop 1).take (j - 1)) : Nat) ∧ Drew w wr) (fun _ i _ => k - (intOf i).toNat)
          case atStart => exact ⟨1, rfl, by omega, by omega, by simp [beFrom, hc], hdr.more nq⟩
          case round =>
            clear hdr
            obtain ⟨j, rfl, hj1, hjk, rfl, hdr⟩ := hrel
            by_cases hj : j < k
            · have hb := UInt8.toNat_lt s[j]
              have h1 := HF.out (j - 1) (by omega)
              have h2 := HF.out j (by omega)
              have hT := drop1_at s j hj1 (by omega)
              have hS := beFrom_snoc (c - hd k) ((s.data.toList.drop 1).take (j - 1)) s[j]
              rw [← hT] at hS
              rw [hS] at h2
              have HS := Lib.hid hS
              generalize hy : beFrom (c - hd k) ((s.data.toList.drop 1).take (j - 1)) = y at *
              clear hS hT hy
              go_wp2
              go_roundw
              case rel =>
                refine ⟨j + 1, by go_num, by omega, by omega, ?_, hdr⟩
                rw [Nat.add_sub_cancel, HS.out]
                go_num
              case measure => simp [intOf]; omega
            · obtain rfl : j = k := by omega
              have hl := HF.out (j - 1) (by omega)
              rw [HV.out] at HN
              generalize hy : beFrom (c - hd j) ((s.data.toList.drop 1).take (j - 1)) = y at *
              clear hy
              by_cases hv : vsz y = j
              · have hvb : ((vsz y : Int) != (j : Int)) = false := by rw [hv]; simp
                have HN2 : Hid (rvar s.data.toList = some (y, j)) := by have := HN.out; rwa [if_pos hv] at this
                clear hv
                go_wp2_with fail
                refine (rsize_any y hl _).mono ?_
                rintro e w' ⟨rfl, rfl⟩
                go_wp2
                go_ret3
                exact ⟨hdr, y, j, 0, rfl, .inl ⟨HN2.out, rfl⟩⟩
              · have hvb : ((vsz y : Int) != (j : Int)) = true := by rw [bne_iff_ne]; omega
                have HN2 : Hid (rvar s.data.toList = none) := by have := HN.out; rwa [if_neg hv] at this
                clear hv
                go_wp2_with fail
                refine (rsize_any y hl _).mono ?_
                rintro e w' ⟨rfl, rfl⟩
                go_wp2
                go_ret3
                exact ⟨hdr, 0, 0, 12, rfl, .inr ⟨HN2.out, rfl, rfl, by decide⟩⟩
      · subst hk
        have hk : lead c = 9 := HL.out 9 hk1 hk9 hkh.out (.inl rfl)
        rw [show (((9 : Nat) : Int)) = 9 from rfl]
        have HLK := Lib.hid hk
        go_wp2_with fail
        go_quiet (fail)
        replace hdr := hdr.more nq
        generalize wr.drewN nq = wr at *
        by_cases hsz : s.size < 9
        · have hn := HRA.out
          rw [hk, if_pos hsz] at hn
          have HN := Lib.hid hn
          clear hn
          go_wp2
          go_ret3
          exact ⟨hdr, 0, 0, 10, rfl, .inr ⟨HN.out, rfl, rfl, by decide⟩⟩
        · have hn := HRA.out
          rw [hk, if_neg hsz] at hn
          have HN := Lib.hid hn
          have hle := lead_hd' ⟨c, hcb⟩
          simp only [hk] at hle
          have hle2 : ((hd 9 : Nat) : Int) ≤ ((s[0].toNat : Nat) : Int) := by rw [← hc]; omega
          have hsub : IntKind.i64.wrap (((s[0].toNat : Nat) : Int) - ((hd 9 : Nat) : Int)) = ((c - hd 9 : Nat) : Int) := by rw [IntWalk.i64_in _ (by omega)]; omega
          have hub : IntKind.u64.wrap ((c - hd 9 : Nat) : Int) = ((c - hd 9 : Nat) : Int) := by rw [wrap_u64_eq]; omega
          have HF : Hid (∀ j, j ≤ 8 → beFrom 0 ((s.data.toList.drop 1).take j) < 18446744073709551616) := fun j hj => by
            have := few_lt c hcb ((s.data.toList.drop 1).take j) (by rw [hk, List.length_take]; omega)
            rw [hk, if_pos rfl] at this
            exact this
          have HV : Hid (said s 0 9 = beFrom 0 ((s.data.toList.drop 1).take (8))) := by
            have := HSAID.out 9
            rw [if_pos rfl] at this
            exact this
          clear hn
          go_wp2_with fail
          go_quiet (first | (go_at_call 85; refine Calls.quiet_of_same (rhead_q _ 9 (by omega) (by omega) (by omega) _)))
          clear hsub hub hw0 hle
          go_wp2
          clear hle2
          go_loopw [6, 7] (fun x i wr => ∃ j : Nat, i = .int .i64 j ∧ 1 ≤ j ∧ j ≤ 9 ∧ x = .int .u64 (beFrom 0 ((s.data.toList.drop 1).take (j - 1)) : Nat) ∧ Drew w wr) (fun _ i _ => 9 - (intOf i).toNat)
          case atStart => exact ⟨1, rfl, by omega, by omega, by simp [beFrom, hc], hdr.more nq⟩
          case round =>
            clear hdr
            obtain ⟨j, rfl, hj1, hjk, rfl, hdr⟩ := hrel
            by_cases hj : j < 9
            · have hb := UInt8.toNat_lt s[j]
              have h1 := HF.out (j - 1) (by omega)
              have h2 := HF.out j (by omega)
              have hT := drop1_at s j hj1 (by omega)
              have hS := beFrom_snoc 0 ((s.data.toList.drop 1).take (j - 1)) s[j]
              rw [← hT] at hS
              rw [hS] at h2
              have HS := Lib.hid hS
              generalize hy : beFrom 0 ((s.data.toList.drop 1).take (j - 1)) = y at *
              clear hS hT hy
              go_wp2
              go_roundw
              case rel =>
                refine ⟨j + 1, by go_num, by omega, by omega, ?_, hdr⟩
                rw [Nat.add_sub_cancel, HS.out]
                go_num
              case measure => simp [intOf]; omega
            · obtain rfl : j = 9 := by omega
              simp only [Nat.reduceSub] at *
              have hl := HF.out 8 (by omega)
              rw [HV.out] at HN
              generalize hy : beFrom 0 ((s.data.toList.drop 1).take 8) = y at *
              clear hy
              by_cases hv : vsz y = 9
              · have hvb : ((vsz y : Int) != 9) = false := by rw [hv]; simp
                have HN2 : Hid (rvar s.data.toList = some (y, 9)) := by have := HN.out; rwa [if_pos hv] at this
                clear hv
                go_wp2_with fail
                refine (rsize_any y hl _).mono ?_
                rintro e w' ⟨rfl, rfl⟩
                go_wp2
                go_ret3
                exact ⟨hdr, y, 9, 0, rfl, .inl ⟨HN2.out, rfl⟩⟩
              · have hvb : ((vsz y : Int) != 9) = true := by rw [bne_iff_ne]; omega
                have HN2 : Hid (rvar s.data.toList = none) := by have := HN.out; rwa [if_neg hv] at this
                clear hv
                go_wp2_with fail
                refine (rsize_any y hl _).mono ?_
                rintro e w' ⟨rfl, rfl⟩
                go_wp2
                go_ret3
                exact ⟨hdr, 0, 0, 12, rfl, .inr ⟨HN2.out, rfl, rfl, by decide⟩⟩
end Go.Proofs.Ytmkcphelmgkipaa

namespace Go.Proofs.Ytmkcphelmgkipaa
open Go.RowKit
attribute [local go_sem ↓] Go.wp_at_zero Go.wp_at_succ

def RTextPost (s : ByteArray) (w : World) (e : Ending) (w' : World) : Prop :=
  Drew w w' ∧ ∃ (t : List UInt8) (n : Nat) (c : Int), e = .returned (.tuple #[.string (str t), .int .i64 n, .int .i64 c]) ∧
    ((rtext 1000 s.data.toList = some (t, n) ∧ c = 0) ∨ (rtext 1000 s.data.toList = none ∧ t = [] ∧ n = 0 ∧ c ≠ 0))

theorem str_nil : str [] = ⟨#[]⟩ := rfl

set_option maxHeartbeats 1000000 in
set_option maxRecDepth 100000 in
theorem rtext_any (s : ByteArray) (w : World) (hs : s.size ≤ 140737488351232) : Calls Try.prog 70 #[.string s, .int .i64 1000] w (RTextPost s w) := by
  have HF := Lib.hid (few_any s w hs)
  have hlen : s.data.toList.length = s.size := by simp
  go_enter Try.func70, Try.ntmps70
  go_wp2_with fail
  refine HF.out.mono ?_
  rintro e w1 ⟨hd, x, n, c, rfl, hxn⟩
  have HD := Lib.hid hd
  clear hd HF
  rcases hxn with ⟨hv, rfl⟩ | ⟨hv, rfl, rfl, hc⟩
  · obtain ⟨hx, hn1, hn⟩ := rvar_bd hv
    rw [hlen] at hn
    have HV := Lib.hid hv
    have HL := Lib.hid hlen
    clear hv hlen
    by_cases hm : x ≤ 1000
    · by_cases hr : x ≤ s.size - n
      · have hex : s.extract n (n + x) = str ((s.data.toList.drop n).take x) := by rw [ext_str]; congr 2; omega
        have HEX := Lib.hid hex
        have hsub : IntKind.i64.wrap ((s.size : Int) - n) = ((s.size - n : Nat) : Int) := by rw [IntWalk.i64_in _ (by omega)]; omega
        clear hex
        go_wp2
        go_ret3
        have hi : rint 1000 s.data.toList = some (x, n) := by unfold rint; rw [HV.out]; exact if_pos hm
        refine ⟨HD.out, (s.data.toList.drop n).take x, n + x, 0, ?_, .inl ⟨?_, rfl⟩⟩
        · rw [← HEX.out]; rfl
        · unfold rtext; rw [hi]; exact if_pos (by rw [HL.out]; exact hr)
      · go_wp2
        go_ret3
        have hi : rint 1000 s.data.toList = some (x, n) := by unfold rint; rw [HV.out]; exact if_pos hm
        exact ⟨HD.out, [], 0, 10, rfl, .inr ⟨by unfold rtext; rw [hi]; exact if_neg (by rw [HL.out]; exact hr), rfl, rfl, by decide⟩⟩
    · go_wp2
      go_ret3
      have hi : rint 1000 s.data.toList = none := by unfold rint; rw [HV.out]; exact if_neg hm
      exact ⟨HD.out, [], 0, 12, rfl, .inr ⟨by unfold rtext; rw [hi], rfl, rfl, by decide⟩⟩
  · have hcn : (c != 0) = true := by rw [bne_iff_ne]; exact hc
    have HV := Lib.hid hv
    have HC := Lib.hid hc
    clear hv hc
    go_wp2
    go_ret3
    have hi : rint 1000 s.data.toList = none := by unfold rint; rw [HV.out]
    exact ⟨HD.out, [], 0, c, rfl, .inr ⟨by unfold rtext; rw [hi], rfl, rfl, HC.out⟩⟩

def RFixPost (s : ByteArray) (w : World) (e : Ending) (w' : World) : Prop :=
  w = w' ∧ ∃ (x n : Nat) (c : Int), e = .returned (.tuple #[.int .u64 x, .int .i64 n, .int .i64 c]) ∧
    ((rfixed 8 s.data.toList = some (x, n) ∧ c = 0) ∨ (rfixed 8 s.data.toList = none ∧ x = 0 ∧ n = 0 ∧ c ≠ 0))

set_option maxHeartbeats 1000000 in
set_option maxRecDepth 100000 in
theorem rfixed_any (s : ByteArray) (w : World) (hs : s.size ≤ 140737488351232) : Calls Try.prog 36 #[.string s, .int .i64 8] w (RFixPost s w) := by
  have hlen : s.data.toList.length = s.size := by simp
  by_cases h8 : s.size < 8
  · have hr : rfixed 8 s.data.toList = none := if_pos (by rw [hlen]; exact h8)
    have HR := Lib.hid hr
    clear hr hlen
    go_enter Try.func36, Try.ntmps36
    go_wp2
    go_ret3
    exact ⟨rfl, 0, 0, 10, rfl, .inr ⟨HR.out, rfl, rfl, by decide⟩⟩
  · have hr : rfixed 8 s.data.toList = some (beFrom 0 (s.data.toList.take 8), 8) := if_neg (by rw [hlen]; exact h8)
    have HR := Lib.hid hr
    clear hr hlen
    go_enter Try.func36, Try.ntmps36
    go_wp2
    go_loopw [7, 8] (fun x i wr => ∃ k : Nat, i = .int .i64 k ∧ k ≤ 8 ∧ x = .int .u64 (beFrom 0 (s.data.toList.take k) : Nat) ∧ wr = w) (fun _ i _ => 8 - (intOf i).toNat)
    case atStart => exact ⟨0, rfl, by omega, rfl, rfl⟩
    case round =>
      obtain ⟨k, rfl, hk, rfl, rfl⟩ := hrel
      by_cases hlt : k < 8
      · have hb := UInt8.toNat_lt s[k]
        have hx := beFrom_take_lt s k 7 (by omega)
        simp only [Nat.reducePow] at hx
        have HT := Lib.hid (take_snoc s k (by omega))
        have HS := Lib.hid (beFrom_snoc 0 (s.data.toList.take k) s[k])
        generalize hX : beFrom 0 (s.data.toList.take k) = x at *
        clear hX
        go_wp2
        go_roundw
        case rel =>
          refine ⟨k + 1, by go_num, by omega, ?_, trivial⟩
          rw [HT.out, HS.out]; go_num
        case measure => simp [intOf]; omega
      · obtain rfl : k = 8 := by omega
        go_wp2
        go_ret3
        exact ⟨rfl, _, 8, 0, rfl, .inl ⟨HR.out, rfl⟩⟩
end Go.Proofs.Ytmkcphelmgkipaa

namespace Go.Proofs.Ytmkcphelmgkipaa
open Go.RowKit
attribute [local go_sem ↓] Go.wp_at_zero Go.wp_at_succ

/-- The document's reader in block o: what is left, and whether all was well. -/
def RIn (w : World) (o : Nat) (s : ByteArray) (ok : Bool) : Prop := w.heap[o]? = some (.cells #[.string s, .bool ok] 76 (0, 0))
def RSt (w : World) (o : Nat) (T : List UInt8) : Option Nat → Prop
  | none => ∃ s : ByteArray, s.size ≤ 140737488351232 ∧ RIn w o s false
  | some a => a ≤ T.length ∧ RIn w o (str (T.drop a)) true

theorem RIn.c0 {w : World} {o : Nat} {s : ByteArray} {ok : Bool} (h : RIn w o s ok) : w.cell? ⟨o, 0, none⟩ = some (.string s) := cell_of_heap h 0
theorem RIn.c1 {w : World} {o : Nat} {s : ByteArray} {ok : Bool} (h : RIn w o s ok) : w.cell? ⟨o, 1, none⟩ = some (.bool ok) := cell_of_heap h 1
theorem RIn.f {w : World} {o : Nat} {s : ByteArray} {ok : Bool} (h : RIn w o s ok) (i : Nat) : w.frozen? ⟨o, i, none⟩ = false := frozen_of_heap h i
theorem RIn.drew {w w' : World} {o : Nat} {s : ByteArray} {ok : Bool} (h : RIn w o s ok) (hd : Drew w w') : RIn w' o s ok := by
  obtain ⟨m, rfl⟩ := hd; exact h
theorem RIn.off {w : World} {o : Nat} {s : ByteArray} {ok : Bool} (h : RIn w o s ok) : RIn (w.setCell ⟨o, 1, none⟩ (.bool false)) o s false := heap_setCell_same w o 1 _ 76 _ h
theorem RIn.move {w : World} {o : Nat} {s : ByteArray} {ok : Bool} (h : RIn w o s ok) (s' : ByteArray) : RIn (w.setCell ⟨o, 0, none⟩ (.string s')) o s' ok := heap_setCell_same w o 0 _ 76 _ h

theorem rvar_le {r : List UInt8} {x n : Nat} (h : rvar r = some (x, n)) : n ≤ r.length := (rvar_bd h).2.2

def RNumPost (o : Nat) (T : List UInt8) (st : Option Nat) (w : World) (e : Ending) (w' : World) : Prop :=
  KeepsBut (fun k => k = o) w w' ∧ e = .returned (.int .i64 ((rd 0 (rint 1125899906842624) T st).1 : Nat)) ∧ RSt w' o T (rd 0 (rint 1125899906842624) T st).2

set_option maxHeartbeats 1000000 in
set_option maxRecDepth 100000 in
theorem rnum_dead (o : Nat) (s : ByteArray) (w : World) (h : RIn w o s false) (hs : s.size ≤ 140737488351232) :
    Calls Try.prog 37 #[.pointer (some ⟨o, 0, none⟩)] w fun e w' => KeepsBut (fun k => k = o) w w' ∧ e = .returned (.int .i64 0) ∧ RIn w' o s false := by
  have HF := Lib.hid (few_any s w hs)
  have H := Lib.hid h
  have c0 := h.c0
  clear h
  go_enter Try.func37, Try.ntmps37
  go_wp2_with fail
  refine HF.out.mono ?_
  rintro e w1 ⟨hd, x, n, c, rfl, _⟩
  have H1 := Lib.hid (H.out.drew hd)
  have HK := Lib.hid (hd.keeps (fun k => k = o))
  have c1 := H1.out.c1
  have c0 := H1.out.c0
  have f := H1.out.f
  clear hd HF
  go_wp2
  go_ret
  exact ⟨HK.out.trans (ks _ _ _ _), rfl, H1.out.off⟩

set_option maxHeartbeats 1000000 in
set_option maxRecDepth 100000 in
theorem rnum_bad (o : Nat) (s : ByteArray) (w : World) (h : RIn w o s true) (hs : s.size ≤ 140737488351232) (hr : rint 1125899906842624 s.data.toList = none) :
    Calls Try.prog 37 #[.pointer (some ⟨o, 0, none⟩)] w fun e w' => KeepsBut (fun k => k = o) w w' ∧ e = .returned (.int .i64 0) ∧ RIn w' o s false := by
  have HF := Lib.hid (few_any s w hs)
  have H := Lib.hid h
  have c0 := h.c0
  clear h
  have HR := Lib.hid hr
  clear hr
  go_enter Try.func37, Try.ntmps37
  go_wp2_with fail
  refine HF.out.mono ?_
  rintro e w1 ⟨hd, x, n, c, rfl, hxn⟩
  have H1 := Lib.hid (H.out.drew hd)
  have HK := Lib.hid (hd.keeps (fun k => k = o))
  have c1 := H1.out.c1
  have c0 := H1.out.c0
  have f := H1.out.f
  clear hd HF
  rcases hxn with ⟨hv, rfl⟩ | ⟨hv, rfl, rfl, hc⟩
  · have hx := (rvar_bd hv).1
    have hgt : 1125899906842624 < x := by
      have := HR.out
      unfold rint at this
      rw [hv] at this
      simp only at this
      split at this
      · cases this
      · omega
    clear hv
    go_wp2
    go_ret
    exact ⟨HK.out.trans (ks _ _ _ _), rfl, H1.out.off⟩
  · have hcn : (c != 0) = true := by rw [bne_iff_ne]; exact hc
    clear hc hv
    go_wp2
    go_ret
    exact ⟨HK.out.trans (ks _ _ _ _), rfl, H1.out.off⟩

set_option maxHeartbeats 1000000 in
set_option maxRecDepth 100000 in
theorem rnum_good (o : Nat) (s : ByteArray) (w : World) (h : RIn w o s true) (hs : s.size ≤ 140737488351232) {x n : Nat} (hr : rint 1125899906842624 s.data.toList = some (x, n)) :
    Calls Try.prog 37 #[.pointer (some ⟨o, 0, none⟩)] w fun e w' => KeepsBut (fun k => k = o) w w' ∧ e = .returned (.int .i64 x) ∧ RIn w' o (str (s.data.toList.drop n)) true := by
  have HF := Lib.hid (few_any s w hs)
  have H := Lib.hid h
  have c0 := h.c0
  clear h
  have hlen : s.data.toList.length = s.size := by simp
  have HR := Lib.hid hr
  clear hr
  go_enter Try.func37, Try.ntmps37
  go_wp2_with fail
  refine HF.out.mono ?_
  rintro e w1 ⟨hd, x', n', c, rfl, hxn⟩
  have H1 := Lib.hid (H.out.drew hd)
  have HK := Lib.hid (hd.keeps (fun k => k = o))
  have c1 := H1.out.c1
  have c0 := H1.out.c0
  have f := H1.out.f
  clear hd HF
  rcases hxn with ⟨hv, rfl⟩ | ⟨hv, _, _, hc⟩
  · have hr := HR.out
    unfold rint at hr
    rw [hv] at hr
    simp only at hr
    split at hr
    · cases hr
      have hle : x ≤ 1125899906842624 := by assumption
      have hn := rvar_le hv
      rw [hlen] at hn
      have hex : s.extract n s.size = str (s.data.toList.drop n) := ext_end s n
      have HEX := Lib.hid hex
      clear hv hlen hex
      go_wp2
      go_ret
      rw [← HEX.out]
      exact ⟨HK.out.trans (ks _ _ _ _), rfl, H1.out.move _⟩
    · cases hr
  · exfalso
    have hr := HR.out
    unfold rint at hr
    rw [hv] at hr
    cases hr

theorem rnum_st (o : Nat) (T : List UInt8) (st : Option Nat) (w : World) (h : RSt w o T st) (hs : T.length ≤ 140737488351232) :
    Calls Try.prog 37 #[.pointer (some ⟨o, 0, none⟩)] w (RNumPost o T st w) := by
  cases st with
  | none =>
    obtain ⟨s, hz, hi⟩ := h
    exact (rnum_dead o s w hi hz).mono fun e w' h => ⟨h.1, h.2.1, s, hz, h.2.2⟩
  | some a =>
    obtain ⟨ha, hi⟩ := h
    have hz : (str (T.drop a)).size ≤ 140737488351232 := by rw [str_size, List.length_drop]; omega
    cases hr : rint 1125899906842624 (T.drop a) with
    | none =>
      have hp : rd 0 (rint 1125899906842624) T (some a) = (0, none) := rd_none hr
      refine (rnum_bad o _ w hi hz (by rw [str_data]; exact hr)).mono fun e w' h => ?_
      unfold RNumPost
      rw [hp]
      exact ⟨h.1, h.2.1, _, hz, h.2.2⟩
    | some xn =>
      obtain ⟨x, n⟩ := xn
      have hp : rd 0 (rint 1125899906842624) T (some a) = (x, some (a + n)) := rd_some hr
      have hn : n ≤ (T.drop a).length := by
        unfold rint at hr
        split at hr
        · cases hr
        · rename_i hv
          split at hr
          · cases hr; exact rvar_le hv
          · cases hr
      rw [List.length_drop] at hn
      refine (rnum_good o _ w hi hz (by rw [str_data]; exact hr)).mono fun e w' h => ?_
      unfold RNumPost
      rw [hp]
      refine ⟨h.1, h.2.1, by omega, ?_⟩
      have := h.2.2
      rw [str_data, List.drop_drop] at this
      exact this

def RTxtPost (o : Nat) (T : List UInt8) (st : Option Nat) (w : World) (e : Ending) (w' : World) : Prop :=
  KeepsBut (fun k => k = o) w w' ∧ e = .returned (.string (str (rd [] (rtext 1000) T st).1)) ∧ RSt w' o T (rd [] (rtext 1000) T st).2

set_option maxHeartbeats 1000000 in
set_option maxRecDepth 100000 in
theorem rtxt_dead (o : Nat) (s : ByteArray) (w : World) (h : RIn w o s false) (hs : s.size ≤ 140737488351232) :
    Calls Try.prog 35 #[.pointer (some ⟨o, 0, none⟩)] w fun e w' => KeepsBut (fun k => k = o) w w' ∧ e = .returned (.string (str [])) ∧ RIn w' o s false := by
  have HF := Lib.hid (rtext_any s w hs)
  have H := Lib.hid h
  have c0 := h.c0
  clear h
  go_enter Try.func35, Try.ntmps35
  go_wp2_with fail
  refine HF.out.mono ?_
  rintro e w1 ⟨hd, x, n, c, rfl, _⟩
  have H1 := Lib.hid (H.out.drew hd)
  have HK := Lib.hid (hd.keeps (fun k => k = o))
  have c1 := H1.out.c1
  have c0 := H1.out.c0
  have f := H1.out.f
  clear hd HF
  go_wp2
  go_ret
  exact ⟨HK.out.trans (ks _ _ _ _), rfl, H1.out.off⟩

set_option maxHeartbeats 1000000 in
set_option maxRecDepth 100000 in
theorem rtxt_bad (o : Nat) (s : ByteArray) (w : World) (h : RIn w o s true) (hs : s.size ≤ 140737488351232) (hr : rtext 1000 s.data.toList = none) :
    Calls Try.prog 35 #[.pointer (some ⟨o, 0, none⟩)] w fun e w' => KeepsBut (fun k => k = o) w w' ∧ e = .returned (.string (str [])) ∧ RIn w' o s false := by
  have HF := Lib.hid (rtext_any s w hs)
  have H := Lib.hid h
  have c0 := h.c0
  clear h
  go_enter Try.func35, Try.ntmps35
  go_wp2_with fail
  refine HF.out.mono ?_
  rintro e w1 ⟨hd, x, n, c, rfl, hxn⟩
  have H1 := Lib.hid (H.out.drew hd)
  have HK := Lib.hid (hd.keeps (fun k => k = o))
  have c1 := H1.out.c1
  have c0 := H1.out.c0
  have f := H1.out.f
  clear hd HF
  rcases hxn with ⟨hv, rfl⟩ | ⟨hv, _, _, hc⟩
  · rw [hr] at hv; cases hv
  · have hcn : (c != 0) = true := by rw [bne_iff_ne]; exact hc
    clear hc hv hr
    go_wp2
    go_ret
    exact ⟨HK.out.trans (ks _ _ _ _), rfl, H1.out.off⟩

theorem rtext_n {m : Nat} {r t : List UInt8} {n : Nat} (h : rtext m r = some (t, n)) : n ≤ r.length := by
  unfold rtext at h
  cases hr : rint m r with
  | none => rw [hr] at h; cases h
  | some xn =>
    obtain ⟨x, k⟩ := xn
    rw [hr] at h
    simp only at h
    have hk : k ≤ r.length := by
      unfold rint at hr
      split at hr
      · cases hr
      · rename_i hv
        split at hr
        · cases hr; exact rvar_le hv
        · cases hr
    split at h
    · cases h; omega
    · cases h

set_option maxHeartbeats 1000000 in
set_option maxRecDepth 100000 in
theorem rtxt_good (o : Nat) (s : ByteArray) (w : World) (h : RIn w o s true) (hs : s.size ≤ 140737488351232) {t : List UInt8} {n : Nat} (hr : rtext 1000 s.data.toList = some (t, n)) :
    Calls Try.prog 35 #[.pointer (some ⟨o, 0, none⟩)] w fun e w' => KeepsBut (fun k => k = o) w w' ∧ e = .returned (.string (str t)) ∧ RIn w' o (str (s.data.toList.drop n)) true := by
  have HF := Lib.hid (rtext_any s w hs)
  have H := Lib.hid h
  have c0 := h.c0
  clear h
  have hlen : s.data.toList.length = s.size := by simp
  have hn := rtext_n hr
  rw [hlen] at hn
  have HEX := Lib.hid (ext_end s n)
  go_enter Try.func35, Try.ntmps35
  go_wp2_with fail
  refine HF.out.mono ?_
  rintro e w1 ⟨hd, x', n', c, rfl, hxn⟩
  have H1 := Lib.hid (H.out.drew hd)
  have HK := Lib.hid (hd.keeps (fun k => k = o))
  have c1 := H1.out.c1
  have c0 := H1.out.c0
  have f := H1.out.f
  clear hd HF
  rcases hxn with ⟨hv, rfl⟩ | ⟨hv, _, _, hc⟩
  · rw [hr] at hv
    cases hv
    clear hr hlen
    go_wp2
    go_ret
    rw [← HEX.out]
    exact ⟨HK.out.trans (ks _ _ _ _), rfl, H1.out.move _⟩
  · rw [hr] at hv; cases hv

theorem rtxt_st (o : Nat) (T : List UInt8) (st : Option Nat) (w : World) (h : RSt w o T st) (hs : T.length ≤ 140737488351232) :
    Calls Try.prog 35 #[.pointer (some ⟨o, 0, none⟩)] w (RTxtPost o T st w) := by
  cases st with
  | none =>
    obtain ⟨s, hz, hi⟩ := h
    exact (rtxt_dead o s w hi hz).mono fun e w' h => ⟨h.1, h.2.1, s, hz, h.2.2⟩
  | some a =>
    obtain ⟨ha, hi⟩ := h
    have hz : (str (T.drop a)).size ≤ 140737488351232 := by rw [str_size, List.length_drop]; omega
    cases hr : rtext 1000 (T.drop a) with
    | none =>
      have hp : rd [] (rtext 1000) T (some a) = ([], none) := rd_none hr
      refine (rtxt_bad o _ w hi hz (by rw [str_data]; exact hr)).mono fun e w' h => ?_
      unfold RTxtPost
      rw [hp]
      exact ⟨h.1, h.2.1, _, hz, h.2.2⟩
    | some xn =>
      obtain ⟨x, n⟩ := xn
      have hp : rd [] (rtext 1000) T (some a) = (x, some (a + n)) := rd_some hr
      have hn := rtext_n hr
      rw [List.length_drop] at hn
      refine (rtxt_good o _ w hi hz (by rw [str_data]; exact hr)).mono fun e w' h => ?_
      unfold RTxtPost
      rw [hp]
      refine ⟨h.1, h.2.1, by omega, ?_⟩
      have := h.2.2
      rw [str_data, List.drop_drop] at this
      exact this
end Go.Proofs.Ytmkcphelmgkipaa
