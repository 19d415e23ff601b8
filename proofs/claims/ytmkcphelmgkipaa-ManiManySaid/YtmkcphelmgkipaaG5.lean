import Derived.Test.YtmkcphelmgkipaaG4
import Derived.Deep.Cut
set_option linter.unusedVariables false
set_option linter.unusedSimpArgs false
namespace Go.Proofs.Ytmkcphelmgkipaa
open Go.RowKit

/-! What the document's reading of a manifest comes to. -/

def qsnap (t : List UInt8) (st : Option Nat) : Snp × Option Nat :=
  (⟨str (rd [] (rtext 1000) t st).1, ((rd 0 (rint 1125899906842624) t (rd [] (rtext 1000) t st).2).1 : Nat), ((rd 0 (rint 1125899906842624) t (rd 0 (rint 1125899906842624) t (rd [] (rtext 1000) t st).2).2).1 : Nat)⟩,
   (rd 0 (rint 1125899906842624) t (rd 0 (rint 1125899906842624) t (rd [] (rtext 1000) t st).2).2).2)

def qsnaps (t : List UInt8) : Nat → Option Nat → List Snp × Option Nat
  | 0, st => ([], st)
  | k + 1, st => ((qsnaps t k st).1 ++ [(qsnap t (qsnaps t k st).2).1], (qsnap t (qsnaps t k st).2).2)

theorem qsnaps_length (t : List UInt8) (k : Nat) (st : Option Nat) : (qsnaps t k st).1.length = k := by
  induction k with
  | zero => rfl
  | succ k ih => simp [qsnaps, ih]

def q1 (t : List UInt8) := rd [] (rtext 1000) t (some 0)
def q2 (t : List UInt8) := rd 0 (rfixed 8) t (q1 t).2
def q3 (t : List UInt8) := rd 0 (rint 1125899906842624) t (q2 t).2
def q4 (t : List UInt8) := rd 0 (rint 1125899906842624) t (q3 t).2
def q5 (t : List UInt8) := rd [] (rtext 1000) t (q4 t).2
def q6 (t : List UInt8) := rd 0 (rint 1125899906842624) t (q5 t).2
def q7 (t : List UInt8) := rd 0 (rint 1125899906842624) t (q6 t).2

def qman (t : List UInt8) : Man := ⟨str (q1 t).1, ((q2 t).1 : Nat), ((q3 t).1 : Nat), ((q4 t).1 : Nat), str (q5 t).1, ((q6 t).1 : Nat), (qsnaps t (q7 t).1 (q7 t).2).1⟩
def qend (t : List UInt8) : Option Nat := (qsnaps t (q7 t).1 (q7 t).2).2

def qRes (T : List UInt8) : Man × Int := if qend T = some T.length ∧ chk (qman T) = 0 then (qman T, 0) else (Man.zero, 12)

/-- What the document's Decode answers. -/
def qdman (l : List UInt8) : Man × Int :=
  if (opened l).2 ≠ 0 then (Man.zero, (opened l).2)
  else if Lib.hasPrefix (opened l).1 [77, 65, 78, 50] = false then (Man.zero, 14)
  else qRes ((opened l).1.drop 4)

theorem qsnap_dead (t : List UInt8) : (qsnap t none).2 = none := rfl
theorem qsnaps_dead (t : List UInt8) (k : Nat) : (qsnaps t k none).2 = none := by
  induction k with
  | zero => rfl
  | succ k ih => show (qsnap t (qsnaps t k none).2).2 = none; rw [ih]; rfl

theorem qsnaps_more (t : List UInt8) (st : Option Nat) (k j : Nat) (h : (qsnaps t k st).2 = none) : (qsnaps t (k + j) st).2 = none := by
  induction j with
  | zero => exact h
  | succ j ih => show (qsnap t (qsnaps t (k + j) st).2).2 = none; rw [ih]; rfl

theorem rint_n {m : Nat} {r : List UInt8} {x n : Nat} (h : rint m r = some (x, n)) : 1 ≤ n ∧ n ≤ r.length ∧ x ≤ m ∧ rvar r = some (x, n) := by
  unfold rint at h
  cases hv : rvar r with
  | none => rw [hv] at h; cases h
  | some yk =>
    obtain ⟨y, k⟩ := yk
    rw [hv] at h
    simp only at h
    have := rvar_bd hv
    split at h
    · cases h; exact ⟨this.2.1, this.2.2, by assumption, rfl⟩
    · cases h

theorem rtext_pos {m : Nat} {r v : List UInt8} {n : Nat} (h : rtext m r = some (v, n)) : 1 ≤ n := by
  unfold rtext at h
  cases hr : rint m r with
  | none => rw [hr] at h; cases h
  | some yk =>
    obtain ⟨y, k⟩ := yk
    rw [hr] at h
    simp only at h
    have := rint_n hr
    split at h
    · cases h; omega
    · cases h

theorem rd_alive {α : Type} {z : α} {f : List UInt8 → Option (α × Nat)} {t : List UInt8} {st : Option Nat} {b : Nat} (h : (rd z f t st).2 = some b) :
    ∃ a v n, st = some a ∧ f (t.drop a) = some (v, n) ∧ b = a + n ∧ (rd z f t st).1 = v := by
  cases st with
  | none => cases h
  | some a =>
    cases hf : f (t.drop a) with
    | none => rw [rd_none hf] at h; cases h
    | some vn =>
      obtain ⟨v, n⟩ := vn
      rw [rd_some hf] at h ⊢
      cases h
      exact ⟨a, v, n, rfl, hf, rfl, rfl⟩

theorem qsnaps_alive (t : List UInt8) (st : Option Nat) (k b : Nat) (h : (qsnaps t k st).2 = some b) : ∃ a, st = some a ∧ a + k ≤ b := by
  induction k generalizing b with
  | zero => exact ⟨b, h, by omega⟩
  | succ k ih =>
    obtain ⟨a1, v1, n1, e1, f1, hb1, _⟩ := rd_alive (show (rd 0 (rint 1125899906842624) t _).2 = some b from h)
    obtain ⟨a2, v2, n2, e2, f2, hb2, _⟩ := rd_alive e1
    obtain ⟨a3, v3, n3, e3, f3, hb3, _⟩ := rd_alive e2
    obtain ⟨a, ha, hk⟩ := ih a3 e3
    have := (rint_n f1).1
    have := (rint_n f2).1
    have := rtext_pos f3
    exact ⟨a, ha, by omega⟩

theorem qsnaps_names (t : List UInt8) (k : Nat) (st : Option Nat) : ∀ x ∈ (qsnaps t k st).1, x.name.size ≤ t.length := by
  induction k with
  | zero => intro x hx; cases hx
  | succ k ih =>
    intro x hx
    rcases List.mem_append.mp hx with h | h
    · exact ih x h
    · rw [List.mem_singleton] at h
      subst h
      show (str _).size ≤ _
      rw [str_size]
      exact rd_text_le _ _ _

theorem snaps_of_rowE {w : World} {base : Nat} {e : TypeId} {v : Value} {l : List Snp} (h : w.ownsRow base e 3 v l.length (rowVals l)) : SnapsAt w v l := by
  rcases h.2 with ⟨rfl, h0⟩ | ⟨g, cap, cur, rfl, hb, hg, hc, hm, hs, ht⟩
  · refine ⟨none, 0, by rw [h0], fun i hi => by omega⟩
  · refine ⟨some ⟨g, 0, none⟩, cap, rfl, fun i hi => ⟨g, 0, rfl, ?_, ?_, ?_⟩⟩
    all_goals
      simp only [Nat.zero_add]
    · have := h.cells (g := g) rfl (i * 3 + 0) (.string (l.getD i Snp.zero).name) (by rw [rowVals_at l i 0 hi (by omega)]; rfl)
      rcases Nat.eq_zero_or_pos i with rfl | hp
      · simpa [Addr.add] using this
      · rw [Nat.add_zero] at this
        simpa [Addr.add, show i * 3 ≠ 0 by omega, show i ≠ 0 by omega] using this
    · have := h.cells (g := g) rfl (i * 3 + 1) (.int .i64 (l.getD i Snp.zero).seq) (by rw [rowVals_at l i 1 hi (by omega)]; rfl)
      simpa [Addr.add, Nat.add_assoc] using this
    · have := h.cells (g := g) rfl (i * 3 + 2) (.int .i64 (l.getD i Snp.zero).upto) (by rw [rowVals_at l i 2 hi (by omega)]; rfl)
      simpa [Addr.add, Nat.add_assoc] using this

theorem RSt.keeps {w w' : World} {o : Nat} {T : List UInt8} {st : Option Nat} (h : RSt w o T st) (hw : w'.heap[o]? = w.heap[o]?) : RSt w' o T st := by
  cases st with
  | none => obtain ⟨s, hs, hi⟩ := h; exact ⟨s, hs, hw.trans hi⟩
  | some a => exact ⟨h.1, hw.trans h.2⟩

theorem rnum_x (o : Nat) (T : List UInt8) (st : Option Nat) (p : Nat × Option Nat) (hp : p = rd 0 (rint 1125899906842624) T st) (w : World) (h : RSt w o T st) (hs : T.length ≤ 140737488351232) :
    Calls Try.prog 37 #[.pointer (some ⟨o, 0, none⟩)] w fun e w' => KeepsBut (fun k => k = o) w w' ∧ e = .returned (.int .i64 (p.1 : Nat)) ∧ RSt w' o T p.2 := by
  have := rnum_st o T st w h hs
  unfold RNumPost at this
  rw [← hp] at this
  exact this

theorem rtxt_x (o : Nat) (T : List UInt8) (st : Option Nat) (p : List UInt8 × Option Nat) (hp : p = rd [] (rtext 1000) T st) (w : World) (h : RSt w o T st) (hs : T.length ≤ 140737488351232) :
    Calls Try.prog 35 #[.pointer (some ⟨o, 0, none⟩)] w fun e w' => KeepsBut (fun k => k = o) w w' ∧ e = .returned (.string (str p.1)) ∧ RSt w' o T p.2 := by
  have := rtxt_st o T st w h hs
  unfold RTxtPost at this
  rw [← hp] at this
  exact this

theorem res9 {W : World} {b : Nat} {c : Int} {v0 v1 v2 v3 v4 v5 v6 : Value} {tmps : Array Value} (h : W.heap[b]? = some (.cells #[v0, v1, v2, v3, v4, v5, v6] 35 (0, 0)))
    (h2 : tmps[2]? = some (.pointer (some ⟨b, 0, none⟩))) (h3 : tmps[3]? = some (.int .i64 c)) :
    (results Try.f9 tmps).run Try.prog W = .ok (.tuple #[.agg #[v0, v1, v2, v3, v4, v5, v6], .int .i64 c]) W := by
  have k0 := cell_of_heap h 0
  have k1 := cell_of_heap h 1
  have k2 := cell_of_heap h 2
  have k3 := cell_of_heap h 3
  have k4 := cell_of_heap h 4
  have k5 := cell_of_heap h 5
  have k6 := cell_of_heap h 6
  simp only [List.getElem?_toArray, List.getElem?_cons_zero, List.getElem?_cons_succ] at k0 k1 k2 k3 k4 k5 k6
  simp [results, Try.results9, go_sem, h2, h3, k0, k1, k2, k3, k4, k5, k6]

theorem ropen_is (s : ByteArray) (hs : s.size ≤ 140737488351232) {A : List UInt8} {c : Int} (h : opened s.data.toList = (A, c)) (w : World) :
    Calls Try.prog 34 #[.string s] w fun e w' => e = .returned (.tuple #[.string (str A), .int .i64 c]) ∧ Below w.heap.size w w' := by
  have := ropen_any s w hs
  rw [h] at this
  exact this
end Go.Proofs.Ytmkcphelmgkipaa

namespace Go.Proofs.Ytmkcphelmgkipaa
open Go.RowKit
attribute [local go_sem ↓] Go.wp_at_zero Go.wp_at_succ

set_option maxHeartbeats 1000000 in
set_option maxRecDepth 100000 in
theorem rdecode_bad (s : ByteArray) (w : World) (hs : s.size ≤ 140737488351232) {A : List UInt8} {c : Int} (h : opened s.data.toList = (A, c)) (hc : c ≠ 0) :
    Calls Try.prog 9 #[.string s] w (ManPost (Man.zero, c) w) := by
  have hd : (c != 0) = true := by rw [bne_iff_ne]; exact hc
  have HO : Hid (∀ w, Calls Try.prog 34 #[.string s] w fun e w' => e = .returned (.tuple #[.string (str A), .int .i64 c]) ∧ Below w.heap.size w w') := fun w => ropen_is s hs h w
  clear h hc
  go_enter Try.func9, Try.ntmps9
  go_wp2_with fail
  refine (HO.out _).mono ?_
  rintro e w1 ⟨rfl, hb⟩
  have hx : w1.heap[w.heap.size]? = some (.cells #[.string ⟨#[]⟩, .int .u64 0, .int .i64 0, .int .i64 0, .string ⟨#[]⟩, .int .i64 0, .slice none 0 0] 35 (0, 0)) := by
    rw [hb.block _ (by simp)]; exact heap_alloc_new w _
  have HB := Lib.hid (alloc_trans hb)
  clear hb
  have k0 := cell_of_heap hx 0
  have k1 := cell_of_heap hx 1
  have k2 := cell_of_heap hx 2
  have k3 := cell_of_heap hx 3
  have k4 := cell_of_heap hx 4
  have k5 := cell_of_heap hx 5
  have k6 := cell_of_heap hx 6
  have f := frozen_of_heap hx
  simp only [List.getElem?_toArray, List.getElem?_cons_zero, List.getElem?_cons_succ] at k0 k1 k2 k3 k4 k5 k6
  have HX := Lib.hid hx
  clear hx
  go_wp2
  obtain ⟨g1, g2⟩ := seven HX.out (.string ⟨#[]⟩) (.int .u64 0) (.int .i64 0) (.int .i64 0) (.string ⟨#[]⟩) (.int .i64 0) (.slice none 0 0)
  exact leaveB (res9 g1 rfl rfl) (manPost_zero c (HB.out.trans (g2.below (fun k e => by omega) HB.out.size)))

theorem magic_is (A : List UInt8) (h : 4 ≤ A.length) : (((str A).extract 0 4).toList == [77, 65, 78, 50]) = Lib.hasPrefix A [77, 65, 78, 50] := by
  have : ((str A).extract 0 4).toList = A.take 4 := by rw [ext_str, ByteArray.toList_eq, str_data, str_data]; simp
  rw [this, Lib.hasPrefix]
  match A, h with
  | a :: b :: c :: d :: t, _ => simp only [List.take_succ_cons, List.take_zero, List.isPrefixOf, BEq.comm (a := (77 : UInt8)), BEq.comm (a := (65 : UInt8)), BEq.comm (a := (78 : UInt8)), BEq.comm (a := (50 : UInt8))]; rfl

set_option maxHeartbeats 1000000 in
set_option maxRecDepth 100000 in
theorem rdecode_kind (s : ByteArray) (w : World) (hs : s.size ≤ 140737488351232) {A : List UInt8} (h : opened s.data.toList = (A, 0)) (hp : Lib.hasPrefix A [77, 65, 78, 50] = false) :
    Calls Try.prog 9 #[.string s] w (ManPost (Man.zero, 14) w) := by
  have HO : Hid (∀ w, Calls Try.prog 34 #[.string s] w fun e w' => e = .returned (.tuple #[.string (str A), .int .i64 0]) ∧ Below w.heap.size w w') := fun w => ropen_is s hs h w
  have hz : (str A).size = A.length := str_size A
  have hAl : A.length ≤ s.size := by have := opened_le s.data.toList; rw [h] at this; simpa using this
  by_cases h4 : A.length < 4
  · have hd : decide (((str A).size : Int) < 4) = true := by rw [hz]; simp; omega
    have hd2 : ((str A).size : Int) < 4 := by omega
    clear h hp h4 hz
    go_enter Try.func9, Try.ntmps9
    go_wp2_with fail
    refine (HO.out _).mono ?_
    rintro e w1 ⟨rfl, hb⟩
    have hx : w1.heap[w.heap.size]? = some (.cells #[.string ⟨#[]⟩, .int .u64 0, .int .i64 0, .int .i64 0, .string ⟨#[]⟩, .int .i64 0, .slice none 0 0] 35 (0, 0)) := by
      rw [hb.block _ (by simp)]; exact heap_alloc_new w _
    have HB := Lib.hid (alloc_trans hb)
    clear hb
    have k0 := cell_of_heap hx 0
    have k1 := cell_of_heap hx 1
    have k2 := cell_of_heap hx 2
    have k3 := cell_of_heap hx 3
    have k4 := cell_of_heap hx 4
    have k5 := cell_of_heap hx 5
    have k6 := cell_of_heap hx 6
    have f := frozen_of_heap hx
    simp only [List.getElem?_toArray, List.getElem?_cons_zero, List.getElem?_cons_succ] at k0 k1 k2 k3 k4 k5 k6
    have HX := Lib.hid hx
    clear hx
    go_wp2
    obtain ⟨g1, g2⟩ := seven HX.out (.string ⟨#[]⟩) (.int .u64 0) (.int .i64 0) (.int .i64 0) (.string ⟨#[]⟩) (.int .i64 0) (.slice none 0 0)
    exact leaveB (res9 g1 rfl rfl) (manPost_zero 14 (HB.out.trans (g2.below (fun k e => by omega) HB.out.size)))
  · have hd : decide (((str A).size : Int) < 4) = false := by rw [hz]; simp; omega
    have hd2 : (4 : Int) ≤ ((str A).size : Int) := by omega
    have hm : (((str A).extract 0 4).toList == [77, 65, 78, 50]) = false := by rw [magic_is A (by omega)]; exact hp
    clear h hp h4 hz
    go_enter Try.func9, Try.ntmps9
    go_wp2_with fail
    refine (HO.out _).mono ?_
    rintro e w1 ⟨rfl, hb⟩
    have hx : w1.heap[w.heap.size]? = some (.cells #[.string ⟨#[]⟩, .int .u64 0, .int .i64 0, .int .i64 0, .string ⟨#[]⟩, .int .i64 0, .slice none 0 0] 35 (0, 0)) := by
      rw [hb.block _ (by simp)]; exact heap_alloc_new w _
    have HB := Lib.hid (alloc_trans hb)
    clear hb
    have k0 := cell_of_heap hx 0
    have k1 := cell_of_heap hx 1
    have k2 := cell_of_heap hx 2
    have k3 := cell_of_heap hx 3
    have k4 := cell_of_heap hx 4
    have k5 := cell_of_heap hx 5
    have k6 := cell_of_heap hx 6
    have f := frozen_of_heap hx
    simp only [List.getElem?_toArray, List.getElem?_cons_zero, List.getElem?_cons_succ] at k0 k1 k2 k3 k4 k5 k6
    have HX := Lib.hid hx
    clear hx
    go_wp2
    obtain ⟨g1, g2⟩ := seven HX.out (.string ⟨#[]⟩) (.int .u64 0) (.int .i64 0) (.int .i64 0) (.string ⟨#[]⟩) (.int .i64 0) (.slice none 0 0)
    exact leaveB (res9 g1 rfl rfl) (manPost_zero 14 (HB.out.trans (g2.below (fun k e => by omega) HB.out.size)))
end Go.Proofs.Ytmkcphelmgkipaa

namespace Go.Proofs.Ytmkcphelmgkipaa
open Go.RowKit
attribute [local go_sem ↓] Go.wp_at_zero Go.wp_at_succ

theorem q_dead2 {T : List UInt8} (h : (q2 T).2 = none) : qRes T = (Man.zero, 12) := by
  have h3 : (q3 T).2 = none := by unfold q3; rw [h]; rfl
  have h4 : (q4 T).2 = none := by unfold q4; rw [h3]; rfl
  have h5 : (q5 T).2 = none := by unfold q5; rw [h4]; rfl
  have h6 : (q6 T).2 = none := by unfold q6; rw [h5]; rfl
  have h7 : (q7 T).2 = none := by unfold q7; rw [h6]; rfl
  have he : qend T = none := by unfold qend; rw [h7]; exact qsnaps_dead _ _
  unfold qRes
  exact if_neg (fun e => by rw [he] at e; cases e.1)
theorem q_dead1 {T : List UInt8} (h : (q1 T).2 = none) : qRes T = (Man.zero, 12) := q_dead2 (by unfold q2; rw [h]; rfl)

theorem rfix_x (s : ByteArray) (w : World) (hs : s.size ≤ 140737488351232) {x n : Nat} (h : rfixed 8 s.data.toList = some (x, n)) :
    Calls Try.prog 36 #[.string s, .int .i64 8] w fun e w' => e = .returned (.tuple #[.int .u64 x, .int .i64 n, .int .i64 0]) ∧ w = w' := by
  refine (rfixed_any s w hs).mono ?_
  rintro e w' ⟨rfl, y, k, c, rfl, ⟨h', rfl⟩ | ⟨h', _⟩⟩
  · rw [h] at h'; cases h'; exact ⟨rfl, rfl⟩
  · rw [h] at h'; cases h'

set_option maxHeartbeats 1000000 in
set_option maxRecDepth 100000 in
theorem rdecode_main (s : ByteArray) (w : World) (hs : s.size ≤ 1000000) {A T : List UInt8} (h : opened s.data.toList = (A, 0)) (hp : Lib.hasPrefix A [77, 65, 78, 50] = true)
    (hA : 4 ≤ A.length) (hAs : A.length ≤ s.size) (hT : T = A.drop 4) :
    Calls Try.prog 9 #[.string s] w (ManPost (qRes T) w) := by
  have HO : Hid (∀ w, Calls Try.prog 34 #[.string s] w fun e w' => e = .returned (.tuple #[.string (str A), .int .i64 0]) ∧ Below w.heap.size w w') := fun w => ropen_is s (by omega) h w
  have hTm : T.length ≤ 1000000 := by rw [hT, List.length_drop]; omega
  have hTl : T.length ≤ 140737488351232 := by omega
  have hAe : (str A).extract 4 (str A).size = str T := by rw [ext_end, hT, str_data]
  have hz : (str A).size = A.length := str_size A
  have hd : decide (((str A).size : Int) < 4) = false := by rw [hz]; simp; omega
  have hd2 : (4 : Int) ≤ ((str A).size : Int) := by omega
  have hm : (((str A).extract 0 4).toList == [77, 65, 78, 50]) = true := by rw [magic_is A hA]; exact hp
  have HTL := Lib.hid hTl
  have HTM := Lib.hid hTm
  have HAE := Lib.hid hAe
  clear h hp hT hAe hTl hTm hz
  obtain ⟨i0, hi, hy0, hy1, hy2⟩ := info_parts Try.info81
  go_enter Try.func9, Try.ntmps9
  go_wp2_with fail
  refine (HO.out _).mono ?_
  rintro e w1 ⟨rfl, hb⟩
  have hx : w1.heap[w.heap.size]? = some (.cells #[.string ⟨#[]⟩, .int .u64 0, .int .i64 0, .int .i64 0, .string ⟨#[]⟩, .int .i64 0, .slice none 0 0] 35 (0, 0)) := by
    rw [hb.block _ (by simp)]; exact heap_alloc_new w _
  have hBo : w.heap.size < w1.heap.size := by have := hb.size; simp at this; omega
  have HB := Lib.hid (alloc_trans hb)
  have HX := Lib.hid hx
  clear hb hx
  go_wp2_with fail
  rw [HAE.out]
  obtain ⟨o, ho⟩ : ∃ o, o = w1.heap.size := ⟨_, rfl⟩
  obtain ⟨w2, hw2⟩ : ∃ w2, w2 = w1.alloc (.cells #[.string (str T), .bool true] 76) := ⟨_, rfl⟩
  have hst0 : RSt w2 o T (some 0) := ⟨Nat.zero_le _, by rw [hw2, ho]; exact heap_alloc_new w1 _⟩
  have hK2 : Below o w1 w2 := by rw [hw2, ho]; exact (Below.refl _ w1).alloc (Nat.le_refl _) _
  have hs2 : w2.heap.size = o + 1 := by rw [hw2, ho]; simp
  rw [← hw2, ← ho]
  rw [← ho] at hBo
  have HW1 := Lib.hid ho
  clear hw2 ho
  refine (rtxt_x o T _ (q1 T) rfl _ hst0 HTL.out).mono ?_
  rintro e w3 ⟨hk, rfl, hst1⟩
  have hs3 := hk.size
  have hK3 := hK2.trans (keeps_below hk (by omega))
  clear hk hK2 hst0
  obtain ⟨V1, hV1⟩ : ∃ V, V = str (q1 T).1 := ⟨_, rfl⟩
  rw [← hV1]
  have HV1 := Lib.hid hV1
  clear hV1
  obtain ⟨M, hM⟩ : ∃ M, M = w3.heap.size := ⟨_, rfl⟩
  obtain ⟨w4, hw4⟩ : ∃ w4, w4 = w3.alloc (.cells #[.string V1, .int .u64 0, .int .i64 0, .int .i64 0, .string ⟨#[]⟩, .int .i64 0, .slice none 0 0] 35) := ⟨_, rfl⟩
  have hoM : o < M := by omega
  have hs4 : w4.heap.size = M + 1 := by rw [hw4, hM]; simp
  have hst4 : RSt w4 o T (q1 T).2 := by rw [hw4]; exact hst1.keeps (Below.heap_alloc _ _ _ (by omega))
  have hK4 : Below o w1 w4 := by rw [hw4]; exact hK3.alloc (by omega) _
  have hm4 : w4.heap[M]? = some (.cells #[.string V1, .int .u64 0, .int .i64 0, .int .i64 0, .string ⟨#[]⟩, .int .i64 0, .slice none 0 0] 35 (0, 0)) := by
    rw [hw4, hM]; exact heap_alloc_new w3 _
  have HW4 := Lib.hid hw4
  have HM := Lib.hid hM
  clear hM
  cases hq1 : (q1 T).2 with
  | none =>
    have HRES := Lib.hid (q_dead1 hq1)
    rw [hq1] at hst4
    obtain ⟨s1, hz1, hi1⟩ := hst4
    have c0 := hi1.c0
    rw [hw4] at c0
    have hx' : w4.heap[w.heap.size]? = some (.cells #[.string ⟨#[]⟩, .int .u64 0, .int .i64 0, .int .i64 0, .string ⟨#[]⟩, .int .i64 0, .slice none 0 0] 35 (0, 0)) := (hK4.block _ hBo).trans HX.out
    have HBW : Hid (Below w.heap.size w w4) := HB.out.trans (hK4.mono (by omega))
    have HX' := Lib.hid hx'
    clear hx' hm4 hK4 hK3 hst1 hq1 hs4 hw4
    go_wp2_with fail
    rw [← HW4.out]
    refine (rfixed_any s1 w4 hz1).mono ?_
    rintro e w5 ⟨rfl, x, n, c, rfl, _⟩
    have c1 := hi1.c1
    have k0 := cell_of_heap HX'.out 0
    have k1 := cell_of_heap HX'.out 1
    have k2 := cell_of_heap HX'.out 2
    have k3 := cell_of_heap HX'.out 3
    have k4 := cell_of_heap HX'.out 4
    have k5 := cell_of_heap HX'.out 5
    have k6 := cell_of_heap HX'.out 6
    have f := frozen_of_heap HX'.out
    simp only [List.getElem?_toArray, List.getElem?_cons_zero, List.getElem?_cons_succ] at k0 k1 k2 k3 k4 k5 k6
    clear hi1
    go_wp2
    obtain ⟨g1, g2⟩ := seven HX'.out (.string ⟨#[]⟩) (.int .u64 0) (.int .i64 0) (.int .i64 0) (.string ⟨#[]⟩) (.int .i64 0) (.slice none 0 0)
    exact leaveB (res9 g1 rfl rfl) (by rw [HRES.out]; exact manPost_zero 12 (HBW.out.trans (g2.below (fun k e => by omega) HBW.out.size)))
  | some a =>
    rw [hq1] at hst4
    obtain ⟨haT, hi1⟩ := hst4
    have hz1 : (str (T.drop a)).size ≤ 140737488351232 := by rw [str_size, List.length_drop]; have := HTL.out; omega
    have c0 := hi1.c0
    rw [hw4] at c0
    have hx' : w4.heap[w.heap.size]? = some (.cells #[.string ⟨#[]⟩, .int .u64 0, .int .i64 0, .int .i64 0, .string ⟨#[]⟩, .int .i64 0, .slice none 0 0] 35 (0, 0)) := (hK4.block _ hBo).trans HX.out
    have HBW : Hid (Below w.heap.size w w4) := HB.out.trans (hK4.mono (by omega))
    have HX' := Lib.hid hx'
    have HI1 := Lib.hid hi1
    have HQ1 := Lib.hid hq1
    cases hfx : rfixed 8 (T.drop a) with
    | none =>
      have HRES := Lib.hid (q_dead2 (T := T) (by unfold q2; rw [hq1]; exact congrArg Prod.snd (rd_none hfx)))
      have HN := Lib.hid (rfixed_any (str (T.drop a)) w4 hz1)
      have HFX := Lib.hid hfx
      clear hx' hm4 hK4 hK3 hst1 hq1 hs4 hw4 hi1 hz1 haT hfx
      go_wp2_with fail
      rw [← HW4.out]
      refine HN.out.mono ?_
      rintro e w5 ⟨rfl, x, n, c, rfl, hxn⟩
      have c1 := HI1.out.c1
      have hcn : (c != 0) = true := by
        rw [bne_iff_ne]
        rcases hxn with ⟨hv, _⟩ | ⟨_, _, _, hc⟩
        · rw [str_data, HFX.out] at hv; cases hv
        · exact hc
      have k0 := cell_of_heap HX'.out 0
      have k1 := cell_of_heap HX'.out 1
      have k2 := cell_of_heap HX'.out 2
      have k3 := cell_of_heap HX'.out 3
      have k4 := cell_of_heap HX'.out 4
      have k5 := cell_of_heap HX'.out 5
      have k6 := cell_of_heap HX'.out 6
      have f := frozen_of_heap HX'.out
      simp only [List.getElem?_toArray, List.getElem?_cons_zero, List.getElem?_cons_succ] at k0 k1 k2 k3 k4 k5 k6
      clear hxn
      go_wp2
      obtain ⟨g1, g2⟩ := seven HX'.out (.string ⟨#[]⟩) (.int .u64 0) (.int .i64 0) (.int .i64 0) (.string ⟨#[]⟩) (.int .i64 0) (.slice none 0 0)
      exact leaveB (res9 g1 rfl rfl) (by rw [HRES.out]; exact manPost_zero 12 (HBW.out.trans (g2.below (fun k e => by omega) HBW.out.size)))
    | some xn =>
      obtain ⟨x, n⟩ := xn
      have hn8 : n = 8 ∧ 8 ≤ (T.drop a).length := by
        unfold rfixed at hfx
        split at hfx
        · cases hfx
        · cases hfx; exact ⟨rfl, by omega⟩
      obtain ⟨rfl, hn8⟩ := hn8
      rw [List.length_drop] at hn8
      have hq2 : q2 T = (x, some (a + 8)) := by unfold q2; rw [hq1]; exact rd_some hfx
      have hex : (str (T.drop a)).extract 8 (str (T.drop a)).size = str (T.drop (a + 8)) := by rw [ext_end, str_data, List.drop_drop]
      have hz8 : (8 : Int) ≤ ((str (T.drop a)).size : Nat) := by rw [str_size, List.length_drop]; omega
      have HN := Lib.hid (rfix_x (str (T.drop a)) w4 hz1 (by rw [str_data]; exact hfx))
      have HEX := Lib.hid hex
      have HQ2 := Lib.hid hq2
      clear hx' hst1 hq1 hw4 hi1 haT hfx hq2 hex hK3
      go_wp2_with fail
      rw [← HW4.out, ← HM.out]
      refine HN.out.mono ?_
      rintro e w5 ⟨rfl, rfl⟩
      clear HN
      have c0 := HI1.out.c0
      have c1 := HI1.out.c1
      have fo := HI1.out.f
      have k1 := cell_of_heap hm4 1
      have fM := frozen_of_heap hm4
      simp only [List.getElem?_toArray, List.getElem?_cons_zero, List.getElem?_cons_succ] at k1
      have HM4 := Lib.hid hm4
      clear hm4
      go_wp2_with fail
      rw [HEX.out]
      obtain ⟨V2, hV2⟩ : ∃ V : Int, V = (x : Nat) := ⟨_, rfl⟩
      rw [← hV2]
      have HV2 : Hid (V2 = ((q2 T).1 : Nat)) := by show _ = _; rw [HQ2.out]; exact hV2
      clear hV2
      obtain ⟨w5, hw5⟩ : ∃ w5, w5 = (w4.setCell ⟨o, 0, none⟩ (.string (str (T.drop (a + 8))))).setCell ⟨M, 1, none⟩ (.int .u64 V2) := ⟨_, rfl⟩
      rw [← hw5]
      have hst5 : RSt w5 o T (q2 T).2 := by
        rw [HQ2.out]
        refine ⟨by omega, ?_⟩
        rw [hw5]
        exact (Below.heap_setCell _ _ _ _ (by show o ≠ M; omega)).trans (HI1.out.move _)
      have hm5 : w5.heap[M]? = some (.cells #[.string V1, .int .u64 V2, .int .i64 0, .int .i64 0, .string ⟨#[]⟩, .int .i64 0, .slice none 0 0] 35 (0, 0)) := by
        rw [hw5, heap_setCell_same _ M 1 _ 35 _ ((Below.heap_setCell _ _ _ _ (by show M ≠ o; omega)).trans HM4.out)]; rfl
      have hK5 : Below o w1 w5 := by
        rw [hw5]
        exact (hK4.trans ((ks w4 o 0 _).below (n := o) (fun k e => by omega) (by omega))).trans ((ks _ M 1 _).below (n := o) (fun k e => by omega) (by simp [World.setCell]; omega))
      have hs5 : w5.heap.size = M + 1 := by rw [hw5]; simp [World.setCell]; exact hs4
      clear hw5 hK4 k1 fM c0 c1 fo HM4 HI1
      refine (rnum_x o T _ (q3 T) rfl _ hst5 HTL.out).mono ?_
      rintro e w6 ⟨hk, rfl, hst6⟩
      have hs6 := hk.size
      have hK6 := hK5.trans (keeps_below hk (by omega))
      have hm6 := keeps_at hk hm5 (by omega)
      obtain ⟨V3, hV3⟩ : ∃ V : Int, V = ((q3 T).1 : Nat) := ⟨_, rfl⟩
      rw [← hV3]
      have HV3 := Lib.hid hV3
      have kj := cell_of_heap hm6 2
      have fM := frozen_of_heap hm6
      simp only [List.getElem?_toArray, List.getElem?_cons_zero, List.getElem?_cons_succ] at kj
      have HMA := Lib.hid hm6
      clear hk hK5 hst5 hm5 hm6 hV3
      go_wp2_with fail
      obtain ⟨w7, hw7⟩ : ∃ W, W = w6.setCell ⟨M, 2, none⟩ (.int .i64 V3) := ⟨_, rfl⟩
      have hkB : KeepsBut (fun k => k = M) w6 w7 := by rw [hw7]; exact ks _ _ _ _
      have hm7 : w7.heap[M]? = some (.cells #[.string V1, .int .u64 V2, .int .i64 V3, .int .i64 0, .string ⟨#[]⟩, .int .i64 0, .slice none 0 0] 35 (0, 0)) := by rw [hw7, heap_setCell_same _ M 2 _ 35 _ HMA.out]; rfl
      have hst7 := hst6.keeps (hkB.block o (by omega) (by omega))
      have hK7 := hK6.trans (hkB.below (n := o) (fun k e => by omega) (by omega))
      have hs7 := hkB.size
      rw [← hw7]
      clear hw7 hkB hst6 hK6 kj fM HMA
      refine (rnum_x o T _ (q4 T) rfl _ hst7 HTL.out).mono ?_
      rintro e w8 ⟨hk, rfl, hst8⟩
      have hs8 := hk.size
      have hK8 := hK7.trans (keeps_below hk (by omega))
      have hm8 := keeps_at hk hm7 (by omega)
      obtain ⟨V4, hV4⟩ : ∃ V : Int, V = ((q4 T).1 : Nat) := ⟨_, rfl⟩
      rw [← hV4]
      have HV4 := Lib.hid hV4
      have kj := cell_of_heap hm8 3
      have fM := frozen_of_heap hm8
      simp only [List.getElem?_toArray, List.getElem?_cons_zero, List.getElem?_cons_succ] at kj
      have HMA := Lib.hid hm8
      clear hk hK7 hst7 hm7 hm8 hV4
      go_wp2_with fail
      obtain ⟨w9, hw9⟩ : ∃ W, W = w8.setCell ⟨M, 3, none⟩ (.int .i64 V4) := ⟨_, rfl⟩
      have hkB : KeepsBut (fun k => k = M) w8 w9 := by rw [hw9]; exact ks _ _ _ _
      have hm9 : w9.heap[M]? = some (.cells #[.string V1, .int .u64 V2, .int .i64 V3, .int .i64 V4, .string ⟨#[]⟩, .int .i64 0, .slice none 0 0] 35 (0, 0)) := by rw [hw9, heap_setCell_same _ M 3 _ 35 _ HMA.out]; rfl
      have hst9 := hst8.keeps (hkB.block o (by omega) (by omega))
      have hK9 := hK8.trans (hkB.below (n := o) (fun k e => by omega) (by omega))
      have hs9 := hkB.size
      rw [← hw9]
      clear hw9 hkB hst8 hK8 kj fM HMA
      refine (rtxt_x o T _ (q5 T) rfl _ hst9 HTL.out).mono ?_
      rintro e w10 ⟨hk, rfl, hst10⟩
      have hs10 := hk.size
      have hK10 := hK9.trans (keeps_below hk (by omega))
      have hm10 := keeps_at hk hm9 (by omega)
      obtain ⟨V5, hV5⟩ : ∃ V, V = str (q5 T).1 := ⟨_, rfl⟩
      rw [← hV5]
      have HV5 := Lib.hid hV5
      have kj := cell_of_heap hm10 4
      have fM := frozen_of_heap hm10
      simp only [List.getElem?_toArray, List.getElem?_cons_zero, List.getElem?_cons_succ] at kj
      have HMA := Lib.hid hm10
      clear hk hK9 hst9 hm9 hm10 hV5
      go_wp2_with fail
      obtain ⟨w11, hw11⟩ : ∃ W, W = w10.setCell ⟨M, 4, none⟩ (.string V5) := ⟨_, rfl⟩
      have hkB : KeepsBut (fun k => k = M) w10 w11 := by rw [hw11]; exact ks _ _ _ _
      have hm11 : w11.heap[M]? = some (.cells #[.string V1, .int .u64 V2, .int .i64 V3, .int .i64 V4, .string V5, .int .i64 0, .slice none 0 0] 35 (0, 0)) := by rw [hw11, heap_setCell_same _ M 4 _ 35 _ HMA.out]; rfl
      have hst11 := hst10.keeps (hkB.block o (by omega) (by omega))
      have hK11 := hK10.trans (hkB.below (n := o) (fun k e => by omega) (by omega))
      have hs11 := hkB.size
      rw [← hw11]
      clear hw11 hkB hst10 hK10 kj fM HMA
      refine (rnum_x o T _ (q6 T) rfl _ hst11 HTL.out).mono ?_
      rintro e w12 ⟨hk, rfl, hst12⟩
      have hs12 := hk.size
      have hK12 := hK11.trans (keeps_below hk (by omega))
      have hm12 := keeps_at hk hm11 (by omega)
      obtain ⟨V6, hV6⟩ : ∃ V : Int, V = ((q6 T).1 : Nat) := ⟨_, rfl⟩
      rw [← hV6]
      have HV6 := Lib.hid hV6
      have kj := cell_of_heap hm12 5
      have fM := frozen_of_heap hm12
      simp only [List.getElem?_toArray, List.getElem?_cons_zero, List.getElem?_cons_succ] at kj
      have HMA := Lib.hid hm12
      clear hk hK11 hst11 hm11 hm12 hV6
      go_wp2_with fail
      obtain ⟨w13, hw13⟩ : ∃ W, W = w12.setCell ⟨M, 5, none⟩ (.int .i64 V6) := ⟨_, rfl⟩
      have hkB : KeepsBut (fun k => k = M) w12 w13 := by rw [hw13]; exact ks _ _ _ _
      have hm13 : w13.heap[M]? = some (.cells #[.string V1, .int .u64 V2, .int .i64 V3, .int .i64 V4, .string V5, .int .i64 V6, .slice none 0 0] 35 (0, 0)) := by rw [hw13, heap_setCell_same _ M 5 _ 35 _ HMA.out]; rfl
      have hst13 := hst12.keeps (hkB.block o (by omega) (by omega))
      have hK13 := hK12.trans (hkB.below (n := o) (fun k e => by omega) (by omega))
      have hs13 := hkB.size
      rw [← hw13]
      clear hw13 hkB hst12 hK12 kj fM HMA
      refine (rnum_x o T _ (q7 T) rfl _ hst13 HTL.out).mono ?_
      rintro e wl ⟨hk, rfl, hst⟩
      have hsl := hk.size
      have hKl := hK13.trans (keeps_below hk (by omega))
      have hml := keeps_at hk hm13 (by omega)
      have hMl : M < wl.heap.size := by omega
      have hn : (q7 T).1 ≤ 1125899906842624 := rd_int_le _ _ _
      obtain ⟨n, hN⟩ : ∃ n, n = (q7 T).1 := ⟨_, rfl⟩
      obtain ⟨st, hST⟩ : ∃ st, st = (q7 T).2 := ⟨_, rfl⟩
      rw [← hN] at hn ⊢
      rw [← hST] at hst
      have HN := Lib.hid hN
      have HST := Lib.hid hST
      clear hk hK13 hst13 hm13 hN hST
      go_wp2
      go_loopw [12] (fun i wr => ∃ (k : Nat) (v : Value), i = .int .i64 k ∧ k ≤ n ∧ RSt wr o T (qsnaps T k st).2 ∧
        wr.heap[M]? = some (.cells #[.string V1, .int .u64 V2, .int .i64 V3, .int .i64 V4, .string V5, .int .i64 V6, v] 35 (0, 0)) ∧
        wr.ownsRow (M + 1) 81 3 v k (rowVals (qsnaps T k st).1) ∧ Below o w1 wr ∧ M < wr.heap.size) (fun i _ => n - (intOf i).toNat)
      case atStart => exact ⟨0, .slice none 0 0, rfl, by omega, hst, hml, World.ownsRow_nil _ _ _ _, hKl, hMl⟩
      case round =>
        clear hst hml hKl hMl
        obtain ⟨k, v, rfl, hkn, hst, hm, hown, hbr, hMr⟩ := hrel
        have hx' : wr.heap[w.heap.size]? = some (.cells #[.string ⟨#[]⟩, .int .u64 0, .int .i64 0, .int .i64 0, .string ⟨#[]⟩, .int .i64 0, .slice none 0 0] 35 (0, 0)) := (hbr.block _ hBo).trans HX.out
        have HBWr : Hid (Below w.heap.size w wr) := HB.out.trans (hbr.mono (by omega))
        clear HX' HBW
        have HX' := Lib.hid hx'
        have HBW := HBWr
        clear hx' HBWr
        cases hst' : (qsnaps T k st).2 with
        | none =>
          have hqe : qend T = none := by
            unfold qend
            rw [← HN.out, ← HST.out]
            have := qsnaps_more T st k (n - k) hst'
            rwa [show k + (n - k) = n by omega] at this
          have HRES := Lib.hid (show qRes T = (Man.zero, 12) from if_neg (fun e => by rw [hqe] at e; cases e.1))
          rw [hst'] at hst
          obtain ⟨s1, hz1, hi1⟩ := hst
          have c1 := hi1.c1
          have k0 := cell_of_heap HX'.out 0
          have k1 := cell_of_heap HX'.out 1
          have k2 := cell_of_heap HX'.out 2
          have k3 := cell_of_heap HX'.out 3
          have k4 := cell_of_heap HX'.out 4
          have k5 := cell_of_heap HX'.out 5
          have k6 := cell_of_heap HX'.out 6
          have f := frozen_of_heap HX'.out
          simp only [List.getElem?_toArray, List.getElem?_cons_zero, List.getElem?_cons_succ] at k0 k1 k2 k3 k4 k5 k6
          clear hm hown hbr hqe hst' hi1
          by_cases hlt : k < n
          · go_wp2
            obtain ⟨g1, g2⟩ := seven HX'.out (.string ⟨#[]⟩) (.int .u64 0) (.int .i64 0) (.int .i64 0) (.string ⟨#[]⟩) (.int .i64 0) (.slice none 0 0)
            exact leaveB (res9 g1 rfl rfl) (by rw [HRES.out]; exact manPost_zero 12 (HBW.out.trans (g2.below (fun k e => by omega) HBW.out.size)))
          · go_wp2
            obtain ⟨g1, g2⟩ := seven HX'.out (.string ⟨#[]⟩) (.int .u64 0) (.int .i64 0) (.int .i64 0) (.string ⟨#[]⟩) (.int .i64 0) (.slice none 0 0)
            exact leaveB (res9 g1 rfl rfl) (by rw [HRES.out]; exact manPost_zero 12 (HBW.out.trans (g2.below (fun k e => by omega) HBW.out.size)))
        | some b =>
          rw [hst'] at hst
          obtain ⟨hbT, hi1⟩ := hst
          obtain ⟨a0, _, hkb⟩ := qsnaps_alive T st k b hst'
          have hkm : k ≤ 1000000 := by have := HTM.out; omega
          have c0 := hi1.c0
          have c1 := hi1.c1
          by_cases hlt : k < n
          · obtain ⟨pA, hpA⟩ : ∃ p, p = rd [] (rtext 1000) T (some b) := ⟨_, rfl⟩
            obtain ⟨pB, hpB⟩ : ∃ p, p = rd 0 (rint 1125899906842624) T pA.2 := ⟨_, rfl⟩
            obtain ⟨pC, hpC⟩ : ∃ p, p = rd 0 (rint 1125899906842624) T pB.2 := ⟨_, rfl⟩
            have hR1 : rowVals (qsnaps T (k + 1) st).1 = rowVals (qsnaps T k st).1 ++ [.string (str pA.1), .int .i64 (pB.1 : Nat), .int .i64 (pC.1 : Nat)] := by
              show rowVals ((qsnaps T k st).1 ++ [(qsnap T (qsnaps T k st).2).1]) = _
              rw [rowVals_append, hst']
              subst hpC hpB hpA
              rfl
            have hR2 : (qsnaps T (k + 1) st).2 = pC.2 := by
              show (qsnap T (qsnaps T k st).2).2 = _
              rw [hst']
              subst hpC hpB hpA
              rfl
            have HA := Lib.hid hpA
            have HBB := Lib.hid hpB
            have HC := Lib.hid hpC
            have HR1 := Lib.hid hR1
            have HR2 := Lib.hid hR2
            have hS : RSt wr o T (some b) := ⟨hbT, hi1⟩
            generalize hrow : rowVals (qsnaps T k st).1 = row at *
            clear hpA hpB hpC hR1 hR2 hrow hst' hi1
            go_wp2_with fail
            refine (rtxt_x o T _ pA HA.out _ hS HTL.out).mono ?_
            rintro e a1 ⟨hk1, rfl, hs1⟩
            have z1 := hk1.size
            have hm1 := keeps_at hk1 hm (by omega)
            have hown1 := row_kept hown hk1 (fun j e1 e2 => by have := hown.lt j e1; omega)
            have hb1 := hbr.trans (keeps_below hk1 (by omega))
            clear hk1 hm hown hbr hS c0 c1
            obtain ⟨nm, hnm⟩ : ∃ nm, nm = str pA.1 := ⟨_, rfl⟩
            rw [← hnm] at HR1 ⊢
            clear hnm
            go_wp2_with fail
            obtain ⟨X, hX⟩ : ∃ X, X = a1.heap.size := ⟨_, rfl⟩
            obtain ⟨a2, ha2⟩ : ∃ a2, a2 = a1.alloc (.cells #[.string nm, .int .i64 0, .int .i64 0] 81) := ⟨_, rfl⟩
            rw [← ha2, ← hX]
            have hx2 : a2.heap[X]? = some (.cells #[.string nm, .int .i64 0, .int .i64 0] 81 (0, 0)) := by rw [ha2, hX]; exact heap_alloc_new a1 _
            have hm2 : a2.heap[M]? = some (.cells #[.string V1, .int .u64 V2, .int .i64 V3, .int .i64 V4, .string V5, .int .i64 V6, v] 35 (0, 0)) := by rw [ha2]; exact (Below.heap_alloc a1 _ M (by omega)).trans hm1
            have hs2 : RSt a2 o T pA.2 := by rw [ha2]; exact hs1.keeps (Below.heap_alloc a1 _ o (by omega))
            have hown2 : a2.ownsRow (M + 1) 81 3 v k row := by rw [ha2]; exact hown1.alloc _
            have hb2 : Below o w1 a2 := by rw [ha2]; exact hb1.alloc (by omega) _
            have z2 : a2.heap.size = X + 1 := by rw [ha2, hX]; simp
            have hXM : M < X := by omega
            have hlt2 : ∀ j, v.ownBlock = some j → M + 1 ≤ j ∧ j < X := fun j e => by have := hown1.lt j e; omega
            clear ha2 hX hm1 hs1 hown1 hb1
            refine (rnum_x o T _ pB HBB.out _ hs2 HTL.out).mono ?_
            rintro e a3 ⟨hk3, rfl, hs3⟩
            have z3 := hk3.size
            have hm3 := keeps_at hk3 hm2 (by omega)
            have hx3 := keeps_at hk3 hx2 (by omega)
            have hown3 := row_kept hown2 hk3 (fun j e1 e2 => by have := hlt2 j e1; omega)
            have hb3 := hb2.trans (keeps_below hk3 (by omega))
            clear hk3 hm2 hx2 hown2 hb2 hs2
            have kx := cell_of_heap hx3 1
            have fx := frozen_of_heap hx3
            simp only [List.getElem?_toArray, List.getElem?_cons_zero, List.getElem?_cons_succ] at kx
            have HX3 := Lib.hid hx3
            have HM3 := Lib.hid hm3
            clear hx3 hm3
            go_wp2_with fail
            obtain ⟨a4, ha4⟩ : ∃ a4, a4 = a3.setCell ⟨X, 1, none⟩ (.int .i64 (pB.1 : Nat)) := ⟨_, rfl⟩
            have hkk : KeepsBut (fun j => j = X) a3 a4 := by rw [ha4]; exact ks _ _ _ _
            have hx4 : a4.heap[X]? = some (.cells #[.string nm, .int .i64 (pB.1 : Nat), .int .i64 0] 81 (0, 0)) := by rw [ha4, heap_setCell_same _ X 1 _ 81 _ HX3.out]; rfl
            have hm4 := (hkk.block M (by omega) (by omega)).trans HM3.out
            have hs4 := hs3.keeps (hkk.block o (by omega) (by omega))
            have hown4 := row_kept hown3 hkk (fun j e1 e2 => by have := hlt2 j e1; omega)
            have hb4 := hb3.trans (hkk.below (n := o) (fun j e => by omega) (by omega))
            have z4 := hkk.size
            rw [← ha4]
            clear ha4 hkk hs3 hown3 hb3 kx fx HX3 HM3
            refine (rnum_x o T _ pC HC.out _ hs4 HTL.out).mono ?_
            rintro e a5 ⟨hk5, rfl, hs5⟩
            have z5 := hk5.size
            have hm5 := keeps_at hk5 hm4 (by omega)
            have hx5 := keeps_at hk5 hx4 (by omega)
            have hown5 := row_kept hown4 hk5 (fun j e1 e2 => by have := hlt2 j e1; omega)
            have hb5 := hb4.trans (keeps_below hk5 (by omega))
            clear hk5 hm4 hx4 hown4 hb4 hs4
            obtain ⟨a6, ha6⟩ : ∃ a6, a6 = a5.setCell ⟨X, 2, none⟩ (.int .i64 (pC.1 : Nat)) := ⟨_, rfl⟩
            have hkk : KeepsBut (fun j => j = X) a5 a6 := by rw [ha6]; exact ks _ _ _ _
            have hx6 : a6.heap[X]? = some (.cells #[.string nm, .int .i64 (pB.1 : Nat), .int .i64 (pC.1 : Nat)] 81 (0, 0)) := by rw [ha6, heap_setCell_same _ X 2 _ 81 _ hx5]; rfl
            have hm6 := (hkk.block M (by omega) (by omega)).trans hm5
            have hs6 := hs5.keeps (hkk.block o (by omega) (by omega))
            have hown6 := row_kept hown5 hkk (fun j e1 e2 => by have := hlt2 j e1; omega)
            have hb6 := hb5.trans (hkk.below (n := o) (fun j e => by omega) (by omega))
            have z6 := hkk.size
            have kx := cell_of_heap hx5 2
            have fx := frozen_of_heap hx5
            simp only [List.getElem?_toArray, List.getElem?_cons_zero, List.getElem?_cons_succ] at kx
            have HX6 := Lib.hid hx6
            have HM6 := Lib.hid hm6
            have HA6 := Lib.hid ha6
            clear hx5 hm5 hs5 hown5 hb5 hkk hx6 hm6 ha6
            go_upto_region 24 with (fail)
            rw [← HA6.out]
            obtain ⟨va, vc, rfl⟩ := owns_slice hown6
            clear kx fx
            have kM := cell_of_heap HM6.out 6
            have fM := frozen_of_heap HM6.out
            have kx0 := cell_of_heap HX6.out 0
            have kx1 := cell_of_heap HX6.out 1
            have kx2 := cell_of_heap HX6.out 2
            simp only [List.getElem?_toArray, List.getElem?_cons_zero, List.getElem?_cons_succ] at kM kx0 kx1 kx2
            go_wp2_with (at_builtin; refine wpList_append_own_at _ rfl _ _ 33 rfl (M + 1) 81 i0 _ 3 32 Try.underlying33 hi hy0 hy1 hy2 rfl (by decide) _ k row rfl (hown6.alloc _) ⟨a6.heap.size, 0, none⟩ 1 1 [.string nm, .int .i64 (pB.1 : Nat), .int .i64 (pC.1 : Nat)] rfl rfl ?c1 ?c2 ?c3 ?c4 ?c5 ?_)
            case c1 => exact World.news_of_block (cs := #[.string nm, .int .i64 (pB.1 : Nat), .int .i64 (pC.1 : Nat)]) (t := 81) (fr := (0, 0)) (heap_alloc_new a6 _)
            case c2 => simp [Value.oneCell']
            case c3 => simp [maxLen]; omega
            case c4 => omega
            case c5 => simp; omega
            intro v' a7 hown7 hgrow _ hat
            obtain ⟨gg, cap, rfl⟩ := owns_form hown7 (by omega)
            have z7 : a6.heap.size + 1 ≤ a7.heap.size := by have := hgrow.size; simpa using this
            have hm7 := (hgrow.block M (by simp; omega) (fun e => by have := (hlt2 M e.symm).1; omega)).trans ((Below.heap_alloc a6 _ M (by omega)).trans HM6.out)
            have hc7 : a7.cell? ⟨M, 6, none⟩ = some (.slice va k vc) := cell_of_heap hm7 6
            have hf7 : a7.frozen? ⟨M, 6, none⟩ = false := frozen_of_heap hm7 6
            have HQ : Hid (∃ v', v' = Value.slice (some ⟨gg, 0, none⟩) (k + 1) cap ∧ RSt (a7.setCell ⟨M, 6, none⟩ v') o T (qsnaps T (k + 1) st).2 ∧
                (a7.setCell ⟨M, 6, none⟩ v').heap[M]? = some (.cells #[.string V1, .int .u64 V2, .int .i64 V3, .int .i64 V4, .string V5, .int .i64 V6, v'] 35 (0, 0)) ∧
                (a7.setCell ⟨M, 6, none⟩ v').ownsRow (M + 1) 81 3 v' (k + 1) (rowVals (qsnaps T (k + 1) st).1) ∧ Below o w1 (a7.setCell ⟨M, 6, none⟩ v') ∧ M < (a7.setCell ⟨M, 6, none⟩ v').heap.size) := by
              refine ⟨_, rfl, ?_, ?_, ?_, ?_, ?_⟩
              · rw [HR2.out]
                refine hs6.keeps ?_
                rw [Below.heap_setCell _ _ _ _ (by show o ≠ M; omega), hgrow.block o (by simp; omega) (fun e => by have := (hlt2 o e.symm).1; omega)]
                exact Below.heap_alloc a6 _ o (by omega)
              · rw [heap_setCell_same _ M 6 _ 35 _ hm7]; rfl
              · rw [HR1.out]
                exact row_kept hown7 (ks _ M 6 _) (fun j e1 e2 => by
                  rcases hat with e | e
                  · have := (hlt2 gg (e.symm.trans rfl)).1; cases e1; simp at e2; omega
                  · cases e1; simp at e2; injection e with e; simp at e; omega)
              · have h2 : Below o w1 a7 := ⟨hgrow.os.trans hb6.os, hgrow.tape.trans hb6.tape, hgrow.output.trans hb6.output, by have := hb6.size; omega, fun j hj => by
                  rw [hgrow.block j (by simp; omega) (fun e => by have := (hlt2 j e.symm).1; omega)]
                  exact (Below.heap_alloc a6 _ j (by omega)).trans (hb6.block j hj)⟩
                exact h2.trans (keeps_below (o := M) (ks _ M 6 _) (by omega) |>.mono (by omega))
              · have : (a7.setCell ⟨M, 6, none⟩ (Value.slice (some ⟨gg, 0, none⟩) (k + 1) cap)).heap.size = a7.heap.size := by simp [World.setCell]
                rw [this]; omega
            clear hown6 hown7 hgrow hat hm7 hb6 hs6 kM fM kx0 kx1 kx2
            go_wp2
            go_roundw
            case rel =>
              obtain ⟨v', rfl, q1, q2, q3, q4, q5⟩ := HQ.out
              exact ⟨k + 1, _, by go_num, by omega, q1, q2, q3, q4, q5⟩
            case measure => simp [intOf]; omega
          · obtain rfl : k = n := by omega
            have hqe : qend T = some b := by unfold qend; rw [← HN.out, ← HST.out]; exact hst'
            by_cases hbl : b = T.length
            · obtain ⟨va, vc, rfl⟩ := owns_slice hown
              have HOWN := Lib.hid hown
              have hL : (qsnaps T k st).1.length = k := qsnaps_length _ _ _
              have hSn : SnapsAt wr (.slice va k vc) (qsnaps T k st).1 := snaps_of_rowE (base := M + 1) (e := 81) (by rw [hL]; exact hown)
              have hP : qman T = ⟨V1, V2, V3, V4, V5, V6, (qsnaps T k st).1⟩ := by
                rw [HV1.out, HV2.out, HV3.out, HV4.out, HV5.out, HV6.out, HN.out, HST.out]; rfl
              have hfit : Fits (qman T) := by
                refine ⟨?_, ?_, ?_, ?_⟩
                · show (str _).size ≤ _; rw [str_size]; exact Nat.le_trans (rd_text_le _ _ _) HTL.out
                · show (str _).size ≤ _; rw [str_size]; exact Nat.le_trans (rd_text_le _ _ _) HTL.out
                · show (qsnaps _ _ _).1.length ≤ _; rw [qsnaps_length, ← HN.out]; omega
                · intro x hx; exact Nat.le_trans (qsnaps_names _ _ _ x hx) HTL.out
              have HCK : Hid (Calls Try.prog 16 #[.agg #[.string V1, .int .u64 V2, .int .i64 V3, .int .i64 V4, .string V5, .int .i64 V6, .slice va k vc]] wr fun e w'' => e = .returned (.int .i64 (chk (qman T))) ∧ Below wr.heap.size wr w'') := by
                have := rcheck_any (qman T) (.slice va k vc) wr hfit (by rw [hP]; exact hSn)
                rw [hP] at this ⊢
                exact this
              have hemp : (str (T.drop b)).toList.isEmpty = true := by
                rw [ByteArray.toList_eq, str_data, List.isEmpty_iff, List.drop_eq_nil_iff]; omega
              have HM' := Lib.hid hm
              have HPM := Lib.hid hP
              have m0 := cell_of_heap hm 0
              have m1 := cell_of_heap hm 1
              have m2 := cell_of_heap hm 2
              have m3 := cell_of_heap hm 3
              have m4 := cell_of_heap hm 4
              have m5 := cell_of_heap hm 5
              have m6 := cell_of_heap hm 6
              simp only [List.getElem?_toArray, List.getElem?_cons_zero, List.getElem?_cons_succ] at m0 m1 m2 m3 m4 m5 m6
              have hqe' : qend T = some T.length := by rw [hqe, hbl]
              have HQE := Lib.hid hqe'
              clear hm hown hbr hst' hi1 hSn hP hfit hL hqe hqe' hbl
              go_wp2_with fail
              refine HCK.out.mono ?_
              rintro e w21 ⟨rfl, hb21⟩
              have hx' : w21.heap[w.heap.size]? = some (.cells #[.string ⟨#[]⟩, .int .u64 0, .int .i64 0, .int .i64 0, .string ⟨#[]⟩, .int .i64 0, .slice none 0 0] 35 (0, 0)) := (hb21.block _ (World.lt_of_heap HX'.out)).trans HX'.out
              have hm21 : w21.heap[M]? = some (.cells #[.string V1, .int .u64 V2, .int .i64 V3, .int .i64 V4, .string V5, .int .i64 V6, .slice va k vc] 35 (0, 0)) := (hb21.block _ (World.lt_of_heap HM'.out)).trans HM'.out
              have HB21 := Lib.hid hb21
              have HX21 := Lib.hid hx'
              have k0 := cell_of_heap hx' 0
              have k1 := cell_of_heap hx' 1
              have k2 := cell_of_heap hx' 2
              have k3 := cell_of_heap hx' 3
              have k4 := cell_of_heap hx' 4
              have k5 := cell_of_heap hx' 5
              have k6 := cell_of_heap hx' 6
              have f := frozen_of_heap hx'
              simp only [List.getElem?_toArray, List.getElem?_cons_zero, List.getElem?_cons_succ] at k0 k1 k2 k3 k4 k5 k6
              have m0 := cell_of_heap hm21 0
              have m1 := cell_of_heap hm21 1
              have m2 := cell_of_heap hm21 2
              have m3 := cell_of_heap hm21 3
              have m4 := cell_of_heap hm21 4
              have m5 := cell_of_heap hm21 5
              have m6 := cell_of_heap hm21 6
              simp only [List.getElem?_toArray, List.getElem?_cons_zero, List.getElem?_cons_succ] at m0 m1 m2 m3 m4 m5 m6
              clear hb21 hx' hm21
              by_cases hch : chk (qman T) = 0
              · have HRES : Hid (qRes T = (qman T, 0)) := if_pos ⟨HQE.out, hch⟩
                rw [hch]
                clear hch
                go_wp2
                obtain ⟨g1, g2⟩ := seven HX21.out (.string V1) (.int .u64 V2) (.int .i64 V3) (.int .i64 V4) (.string V5) (.int .i64 V6) (.slice va k vc)
                have hB := ((KeepsBut.of_below (X := fun j => j = w.heap.size) HB21.out).trans g2).below (n := w.heap.size) (fun k e => by omega) HBW.out.size
                refine leaveB (res9 g1 rfl rfl) ?_
                rw [HRES.out]
                refine ⟨.slice va k vc, by rw [HPM.out]; rfl, ?_, HBW.out.trans hB⟩
                rw [HPM.out]
                have r1 := row_kept HOWN.out (KeepsBut.of_below (X := fun _ => False) HB21.out) (fun _ _ => id)
                have r2 := row_kept r1 g2 (fun j e1 e2 => by have := (r1.lt j e1).1; omega)
                exact snaps_of_rowE (base := M + 1) (e := 81) (by rw [qsnaps_length]; exact r2)
              · have HRES : Hid (qRes T = (Man.zero, 12)) := if_neg (fun e => hch e.2)
                have hcn : (chk (qman T) != 0) = true := by rw [bne_iff_ne]; exact hch
                clear hch
                go_wp2
                obtain ⟨g1, g2⟩ := seven HX21.out (.string ⟨#[]⟩) (.int .u64 0) (.int .i64 0) (.int .i64 0) (.string ⟨#[]⟩) (.int .i64 0) (.slice none 0 0)
                exact leaveB (res9 g1 rfl rfl) (by rw [HRES.out]; exact manPost_zero 12 (HBW.out.trans (((KeepsBut.of_below HB21.out).trans g2).below (fun k e => by omega) HBW.out.size)))
            · have HRES : Hid (qRes T = (Man.zero, 12)) := if_neg (fun e => by rw [hqe] at e; exact hbl (by injection e.1))
              have hemp : (str (T.drop b)).toList.isEmpty = false := by
                rw [ByteArray.toList_eq, str_data, List.isEmpty_eq_false_iff]
                intro e
                rw [List.drop_eq_nil_iff] at e
                omega
              have k0 := cell_of_heap HX'.out 0
              have k1 := cell_of_heap HX'.out 1
              have k2 := cell_of_heap HX'.out 2
              have k3 := cell_of_heap HX'.out 3
              have k4 := cell_of_heap HX'.out 4
              have k5 := cell_of_heap HX'.out 5
              have k6 := cell_of_heap HX'.out 6
              have f := frozen_of_heap HX'.out
              simp only [List.getElem?_toArray, List.getElem?_cons_zero, List.getElem?_cons_succ] at k0 k1 k2 k3 k4 k5 k6
              clear hm hown hbr hqe hst' hi1 hbl
              go_wp2
              obtain ⟨g1, g2⟩ := seven HX'.out (.string ⟨#[]⟩) (.int .u64 0) (.int .i64 0) (.int .i64 0) (.string ⟨#[]⟩) (.int .i64 0) (.slice none 0 0)
              exact leaveB (res9 g1 rfl rfl) (by rw [HRES.out]; exact manPost_zero 12 (HBW.out.trans (g2.below (fun k e => by omega) HBW.out.size)))
end Go.Proofs.Ytmkcphelmgkipaa

namespace Go.Proofs.Ytmkcphelmgkipaa
open Go.RowKit

theorem rdecode_any (s : ByteArray) (w : World) (hs : s.size ≤ 1000000) : Calls Try.prog 9 #[.string s] w (ManPost (qdman s.data.toList) w) := by
  cases ho : opened s.data.toList with
  | mk A c =>
    unfold qdman
    rw [ho]
    by_cases hc : c = 0
    · subst hc
      simp only [ne_eq, not_true_eq_false, if_false]
      by_cases hp : Lib.hasPrefix A [77, 65, 78, 50] = true
      · rw [if_neg (by rw [hp]; simp)]
        have hl := opened_le s.data.toList
        rw [ho] at hl
        exact rdecode_main s w hs ho hp (prefix_four hp).1 (by simpa using hl) rfl
      · rw [if_pos (by simpa using hp)]
        exact rdecode_kind s w (by omega) ho (by simpa using hp)
    · rw [if_pos hc]
      exact rdecode_bad s w (by omega) ho hc

/-! The two decoders answer alike: in either the limits on the way follow from the check at the end. -/

theorem rint_narrow {M m : Nat} {r : List UInt8} {x n : Nat} (h : rint M r = some (x, n)) (hx : x ≤ m) : rint m r = some (x, n) := by
  have := (rint_n h).2.2.2
  unfold rint
  rw [this]
  exact if_pos hx

theorem rtext_narrow {M m : Nat} {r t : List UInt8} {n : Nat} (h : rtext M r = some (t, n)) (ht : t.length ≤ m) : rtext m r = some (t, n) := by
  unfold rtext at h
  cases hr : rint M r with
  | none => rw [hr] at h; cases h
  | some xk =>
    obtain ⟨x, k⟩ := xk
    rw [hr] at h
    simp only at h
    split at h
    · rename_i hle
      cases h
      have hx : x ≤ m := by
        rw [List.length_take, List.length_drop] at ht
        omega
      unfold rtext
      rw [rint_narrow hr hx]
      exact if_pos hle
    · cases h

theorem rd_int_narrow {M m : Nat} {t : List UInt8} {st : Option Nat} {b : Nat} (h : (rd 0 (rint M) t st).2 = some b) (hx : (rd 0 (rint M) t st).1 ≤ m) : rd 0 (rint m) t st = rd 0 (rint M) t st := by
  obtain ⟨a, v, n, rfl, hf, rfl, hv⟩ := rd_alive h
  rw [hv] at hx
  rw [rd_some hf, rd_some (rint_narrow hf hx)]

theorem rd_text_narrow {M m : Nat} {t : List UInt8} {st : Option Nat} {b : Nat} (h : (rd [] (rtext M) t st).2 = some b) (hx : (rd [] (rtext M) t st).1.length ≤ m) : rd [] (rtext m) t st = rd [] (rtext M) t st := by
  obtain ⟨a, v, n, rfl, hf, rfl, hv⟩ := rd_alive h
  rw [hv] at hx
  rw [rd_some hf, rd_some (rtext_narrow hf hx)]

theorem rd_text_most (m : Nat) (t : List UInt8) (st : Option Nat) : (rd [] (rtext m) t st).1.length ≤ m := by
  cases st with
  | none => simp [rd]
  | some a =>
    cases hr : rtext m (t.drop a) with
    | none => rw [rd_none hr]; simp
    | some vn =>
      obtain ⟨v, n⟩ := vn
      rw [rd_some hr]
      show v.length ≤ m
      unfold rtext at hr
      cases hi : rint m (t.drop a) with
      | none => rw [hi] at hr; cases hr
      | some xk =>
        obtain ⟨x, k⟩ := xk
        rw [hi] at hr
        simp only at hr
        have := (rint_n hi).2.2.1
        split at hr
        · cases hr; simp; omega
        · cases hr

def gsnap (mt mi : Nat) (t : List UInt8) (st : Option Nat) : Snp × Option Nat :=
  (⟨str (rd [] (rtext mt) t st).1, ((rd 0 (rint mi) t (rd [] (rtext mt) t st).2).1 : Nat), ((rd 0 (rint mi) t (rd 0 (rint mi) t (rd [] (rtext mt) t st).2).2).1 : Nat)⟩,
   (rd 0 (rint mi) t (rd 0 (rint mi) t (rd [] (rtext mt) t st).2).2).2)
def gsnaps (mt mi : Nat) (t : List UInt8) : Nat → Option Nat → List Snp × Option Nat
  | 0, st => ([], st)
  | k + 1, st => ((gsnaps mt mi t k st).1 ++ [(gsnap mt mi t (gsnaps mt mi t k st).2).1], (gsnap mt mi t (gsnaps mt mi t k st).2).2)
theorem rsnaps_g (t : List UInt8) (k : Nat) (st : Option Nat) : rsnaps t k st = gsnaps 64 1099511627776 t k st := by
  induction k with
  | zero => rfl
  | succ k ih => show (_, _) = (_, _); rw [ih]; rfl
theorem qsnaps_g (t : List UInt8) (k : Nat) (st : Option Nat) : qsnaps t k st = gsnaps 1000 1125899906842624 t k st := by
  induction k with
  | zero => rfl
  | succ k ih => show (_, _) = (_, _); rw [ih]; rfl

theorem gsnap_narrow {M I m i : Nat} {t : List UInt8} {st : Option Nat} {b : Nat} (h : (gsnap M I t st).2 = some b)
    (hx : (gsnap M I t st).1.name.size ≤ m ∧ (gsnap M I t st).1.seq ≤ i ∧ (gsnap M I t st).1.upto ≤ i) : gsnap m i t st = gsnap M I t st := by
  obtain ⟨h1, h2, h3⟩ := hx
  unfold gsnap at h h1 h2 h3
  simp only at h h1 h2 h3
  rw [str_size] at h1
  obtain ⟨a1, v1, n1, e1, f1, hb1, _⟩ := rd_alive h
  obtain ⟨a2, v2, n2, e2, f2, hb2, _⟩ := rd_alive e1
  have g1 := rd_text_narrow (m := m) e2 h1
  have g2 := rd_int_narrow (m := i) e1 (by omega)
  have g3 := rd_int_narrow (m := i) h (by omega)
  unfold gsnap
  rw [g1, g2, g3]

theorem gsnap_alive {M I : Nat} {t : List UInt8} {st : Option Nat} {b : Nat} (h : (gsnap M I t st).2 = some b) : ∃ a, st = some a := by
  obtain ⟨a1, v1, n1, e1, f1, hb1, _⟩ := rd_alive (show (rd 0 (rint I) t (rd 0 (rint I) t (rd [] (rtext M) t st).2).2).2 = some b from h)
  obtain ⟨a2, v2, n2, e2, f2, hb2, _⟩ := rd_alive e1
  obtain ⟨a3, v3, n3, e3, f3, hb3, _⟩ := rd_alive e2
  exact ⟨a3, e3⟩

theorem gsnaps_narrow {M I m i : Nat} {t : List UInt8} {st : Option Nat} (k : Nat) {b : Nat} (h : (gsnaps M I t k st).2 = some b)
    (hx : ∀ x ∈ (gsnaps M I t k st).1, x.name.size ≤ m ∧ x.seq ≤ i ∧ x.upto ≤ i) : gsnaps m i t k st = gsnaps M I t k st := by
  induction k generalizing b with
  | zero => rfl
  | succ k ih =>
    obtain ⟨a, ha⟩ := gsnap_alive (show (gsnap M I t (gsnaps M I t k st).2).2 = some b from h)
    have e1 := ih ha (fun x hm => hx x (List.mem_append_left _ hm))
    have e2 := gsnap_narrow (m := m) (i := i) (show (gsnap M I t (gsnaps M I t k st).2).2 = some b from h) (hx _ (List.mem_append_right _ (List.mem_singleton.mpr rfl)))
    show (_, _) = (_, _)
    rw [e1, e2]

theorem gsnaps_alive {M I : Nat} {t : List UInt8} {st : Option Nat} (k : Nat) {b : Nat} (h : (gsnaps M I t k st).2 = some b) : ∃ a, st = some a := by
  induction k generalizing b with
  | zero => exact ⟨b, h⟩
  | succ k ih =>
    obtain ⟨a, ha⟩ := gsnap_alive (show (gsnap M I t (gsnaps M I t k st).2).2 = some b from h)
    exact ih ha

theorem gsnaps_most (M I : Nat) (t : List UInt8) (st : Option Nat) (k : Nat) : ∀ x ∈ (gsnaps M I t k st).1, x.name.size ≤ M ∧ x.seq ≤ I ∧ x.upto ≤ I := by
  induction k with
  | zero => intro x hx; cases hx
  | succ k ih =>
    intro x hx
    rcases List.mem_append.mp hx with h | h
    · exact ih x h
    · rw [List.mem_singleton] at h
      subst h
      refine ⟨?_, ?_, ?_⟩
      · show (str _).size ≤ _; rw [str_size]; exact rd_text_most _ _ _
      · show ((rd 0 (rint I) t _).1 : Int) ≤ _; have := rd_int_le I t (rd [] (rtext M) t (gsnaps M I t k st).2).2; omega
      · show ((rd 0 (rint I) t _).1 : Int) ≤ _; have := rd_int_le I t (rd 0 (rint I) t (rd [] (rtext M) t (gsnaps M I t k st).2).2).2; omega

theorem p_to_q {T : List UInt8} {b : Nat} (h : pend T = some b) : qman T = pman T ∧ qend T = some b := by
  unfold pend at h
  rw [rsnaps_g] at h
  obtain ⟨a7, h7⟩ := gsnaps_alive _ h
  obtain ⟨a6, _, _, h6, _⟩ := rd_alive (show (rd 0 (rint 100) T (p6 T).2).2 = some a7 from h7)
  obtain ⟨a5, _, _, h5, _⟩ := rd_alive (show (rd 0 (rint 1099511627776) T (p5 T).2).2 = some a6 from h6)
  obtain ⟨a4, _, _, h4, _⟩ := rd_alive (show (rd [] (rtext 64) T (p4 T).2).2 = some a5 from h5)
  obtain ⟨a3, _, _, h3, _⟩ := rd_alive (show (rd 0 (rint 65536) T (p3 T).2).2 = some a4 from h4)
  obtain ⟨a2, _, _, h2, _⟩ := rd_alive (show (rd 0 (rint 1099511627776) T (p2 T).2).2 = some a3 from h3)
  obtain ⟨a1, _, _, h1, _⟩ := rd_alive (show (rd 0 (rfixed 8) T (p1 T).2).2 = some a2 from h2)
  have e1 : q1 T = p1 T := rd_text_narrow (m := 1000) (show (rd [] (rtext 64) T (some 0)).2 = some a1 from h1) (by have := rd_text_most 64 T (some 0); omega)
  have e2 : q2 T = p2 T := by unfold q2 p2; rw [e1]
  have e3 : q3 T = p3 T := by unfold q3; rw [e2]; exact rd_int_narrow (show (rd 0 (rint 1099511627776) T (p2 T).2).2 = some a3 from h3) (by have := rd_int_le 1099511627776 T (p2 T).2; omega)
  have e4 : q4 T = p4 T := by unfold q4; rw [e3]; exact rd_int_narrow (show (rd 0 (rint 65536) T (p3 T).2).2 = some a4 from h4) (by have := rd_int_le 65536 T (p3 T).2; omega)
  have e5 : q5 T = p5 T := by unfold q5; rw [e4]; exact rd_text_narrow (show (rd [] (rtext 64) T (p4 T).2).2 = some a5 from h5) (by have := rd_text_most 64 T (p4 T).2; omega)
  have e6 : q6 T = p6 T := by unfold q6; rw [e5]; exact rd_int_narrow (show (rd 0 (rint 1099511627776) T (p5 T).2).2 = some a6 from h6) (by have := rd_int_le 1099511627776 T (p5 T).2; omega)
  have e7 : q7 T = p7 T := by unfold q7; rw [e6]; exact rd_int_narrow (show (rd 0 (rint 100) T (p6 T).2).2 = some a7 from h7) (by have := rd_int_le 100 T (p6 T).2; omega)
  have e8 : qsnaps T (p7 T).1 (p7 T).2 = rsnaps T (p7 T).1 (p7 T).2 := by
    rw [qsnaps_g, rsnaps_g]
    exact gsnaps_narrow _ h (fun x hx => by have := gsnaps_most _ _ _ _ _ x hx; omega)
  constructor
  · unfold qman pman; rw [e1, e2, e3, e4, e5, e6, e7, e8]
  · unfold qend; rw [e7, e8, rsnaps_g]; exact h

theorem q_to_p {T : List UInt8} {b : Nat} (h : qend T = some b) (hc : chk (qman T) = 0) : pman T = qman T ∧ pend T = some b := by
  have hg := chk_good hc
  unfold qend at h
  rw [qsnaps_g] at h
  obtain ⟨a7, h7⟩ := gsnaps_alive _ h
  obtain ⟨a6, _, _, h6, _⟩ := rd_alive (show (rd 0 (rint 1125899906842624) T (q6 T).2).2 = some a7 from h7)
  obtain ⟨a5, _, _, h5, _⟩ := rd_alive (show (rd 0 (rint 1125899906842624) T (q5 T).2).2 = some a6 from h6)
  obtain ⟨a4, _, _, h4, _⟩ := rd_alive (show (rd [] (rtext 1000) T (q4 T).2).2 = some a5 from h5)
  obtain ⟨a3, _, _, h3, _⟩ := rd_alive (show (rd 0 (rint 1125899906842624) T (q3 T).2).2 = some a4 from h4)
  obtain ⟨a2, _, _, h2, _⟩ := rd_alive (show (rd 0 (rint 1125899906842624) T (q2 T).2).2 = some a3 from h3)
  obtain ⟨a1, _, _, h1, _⟩ := rd_alive (show (rd 0 (rfixed 8) T (q1 T).2).2 = some a2 from h2)
  have l1 : (q1 T).1.length ≤ 64 := by have := (vol_size hg.vol).2; unfold qman at this; simp only at this; rw [str_data] at this; omega
  have l3 : (q3 T).1 ≤ 1099511627776 := by have := hg.serial; unfold qman at this; simp only at this; omega
  have l4 : (q4 T).1 ≤ 65536 := by have := hg.size; unfold qman at this; simp only at this; omega
  have l5 : (q5 T).1.length ≤ 64 := by have := (may_size hg.may).1; unfold qman at this; simp only at this; rw [str_data] at this; omega
  have l6 : (q6 T).1 ≤ 1099511627776 := by have := (may_size hg.may).2; unfold qman at this; simp only at this; omega
  have l7 : (q7 T).1 ≤ 100 := by have := hg.many; unfold qman at this; simp only at this; rw [qsnaps_length] at this; omega
  have e1 : p1 T = q1 T := rd_text_narrow (m := 64) (show (rd [] (rtext 1000) T (some 0)).2 = some a1 from h1) l1
  have e2 : p2 T = q2 T := by unfold q2 p2; rw [e1]
  have e3 : p3 T = q3 T := by unfold p3; rw [e2]; exact rd_int_narrow (show (rd 0 (rint 1125899906842624) T (q2 T).2).2 = some a3 from h3) l3
  have e4 : p4 T = q4 T := by unfold p4; rw [e3]; exact rd_int_narrow (show (rd 0 (rint 1125899906842624) T (q3 T).2).2 = some a4 from h4) l4
  have e5 : p5 T = q5 T := by unfold p5; rw [e4]; exact rd_text_narrow (show (rd [] (rtext 1000) T (q4 T).2).2 = some a5 from h5) l5
  have e6 : p6 T = q6 T := by unfold p6; rw [e5]; exact rd_int_narrow (show (rd 0 (rint 1125899906842624) T (q5 T).2).2 = some a6 from h6) l6
  have e7 : p7 T = q7 T := by unfold p7; rw [e6]; exact rd_int_narrow (show (rd 0 (rint 1125899906842624) T (q6 T).2).2 = some a7 from h7) l7
  have e8 : rsnaps T (q7 T).1 (q7 T).2 = qsnaps T (q7 T).1 (q7 T).2 := by
    rw [qsnaps_g, rsnaps_g]
    refine gsnaps_narrow _ h (fun x hx => ?_)
    rw [← qsnaps_g] at hx
    obtain ⟨i, hi, rfl⟩ := List.mem_iff_getElem.mp hx
    have := hg.at i hi
    unfold qman at this
    simp only at this
    rw [List.getD_eq_getElem?_getD, List.getElem?_eq_getElem hi] at this
    simp only [Option.getD_some] at this
    omega
  constructor
  · unfold qman pman; rw [e1, e2, e3, e4, e5, e6, e7, e8]
  · unfold pend; rw [e7, e8, qsnaps_g]; exact h

theorem qRes_man (T : List UInt8) : qRes T = manRes T := by
  unfold qRes manRes
  by_cases h : pend T = some T.length ∧ chk (pman T) = 0
  · obtain ⟨h1, h2⟩ := p_to_q h.1
    rw [if_pos h, if_pos ⟨h2, by rw [h1]; exact h.2⟩, h1]
  · rw [if_neg h]
    refine if_neg (fun h' => h ?_)
    obtain ⟨h1, h2⟩ := q_to_p h'.1 h'.2
    exact ⟨h2, by rw [h1]; exact h'.2⟩

theorem qdman_dman (l : List UInt8) : qdman l = dman l := by
  unfold qdman dman
  rw [qRes_man]
  rfl
end Go.Proofs.Ytmkcphelmgkipaa
