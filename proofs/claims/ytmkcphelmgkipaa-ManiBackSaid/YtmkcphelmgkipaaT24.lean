import Derived.Test.YtmkcphelmgkipaaT23
import Derived.Deep.RegionHeld3
import Derived.Deep.AppendLies
set_option linter.unusedVariables false
set_option linter.unusedSimpArgs false
namespace Go.Proofs.Ytmkcphelmgkipaa
open Go.RowKit
attribute [local go_sem ↓] Go.wp_at_zero Go.wp_at_succ

def ManPost (l : Man × Int) (w : World) (e : Ending) (w' : World) : Prop :=
  ∃ sv, e = .returned (.tuple #[l.1.val sv, .int .i64 l.2]) ∧ SnapsAt w' sv l.1.snaps ∧ Below w.heap.size w w'

theorem snaps_nil (w : World) : SnapsAt w (.slice none 0 0) [] := ⟨none, 0, rfl, fun i hi => by cases hi⟩

theorem manPost_zero (c : Int) {w w' : World} (hb : Below w.heap.size w w') : ManPost (Man.zero, c) w (.returned (.tuple #[.agg #[.string ⟨#[]⟩, .int .u64 0, .int .i64 0, .int .i64 0, .string ⟨#[]⟩, .int .i64 0, .slice none 0 0], .int .i64 c])) w' :=
  ⟨.slice none 0 0, rfl, snaps_nil _, hb⟩

theorem open_is (s : ByteArray) (hs : s.size ≤ 140737488351232) {A : List UInt8} {c : Int} (h : opened s.data.toList = (A, c)) (w : World) :
    Calls Try.prog 26 #[.string s] w fun e w' => e = .returned (.tuple #[.string (str A), .int .i64 c]) ∧ Below w.heap.size w w' := by
  have := open_any s w hs
  rw [h] at this
  exact this

theorem ks (w : World) (b o : Nat) (v : Value) : KeepsBut (fun k => k = b) w (w.setCell ⟨b, o, none⟩ v) := KeepsBut.setCell (X := fun k => k = b) w (p := ⟨b, o, none⟩) rfl v

/-- A whole manifest's seven cells, stored one by one. -/
theorem seven {w : World} {b : Nat} {a0 a1 a2 a3 a4 a5 a6 : Value} {e : TypeId} (h : w.heap[b]? = some (.cells #[a0, a1, a2, a3, a4, a5, a6] e (0, 0))) (v0 v1 v2 v3 v4 v5 v6 : Value) :
    (((((((w.setCell ⟨b, 0, none⟩ v0).setCell ⟨b, 1, none⟩ v1).setCell ⟨b, 2, none⟩ v2).setCell ⟨b, 3, none⟩ v3).setCell ⟨b, 4, none⟩ v4).setCell ⟨b, 5, none⟩ v5).setCell ⟨b, 6, none⟩ v6).heap[b]? = some (.cells #[v0, v1, v2, v3, v4, v5, v6] e (0, 0)) ∧
    KeepsBut (fun k => k = b) w (((((((w.setCell ⟨b, 0, none⟩ v0).setCell ⟨b, 1, none⟩ v1).setCell ⟨b, 2, none⟩ v2).setCell ⟨b, 3, none⟩ v3).setCell ⟨b, 4, none⟩ v4).setCell ⟨b, 5, none⟩ v5).setCell ⟨b, 6, none⟩ v6) := by
  constructor
  · rw [heap_setCell_same _ b 6 #[v0, v1, v2, v3, v4, v5, a6] e _ ?_]; rfl
    rw [heap_setCell_same _ b 5 #[v0, v1, v2, v3, v4, a5, a6] e _ ?_]; rfl
    rw [heap_setCell_same _ b 4 #[v0, v1, v2, v3, a4, a5, a6] e _ ?_]; rfl
    rw [heap_setCell_same _ b 3 #[v0, v1, v2, a3, a4, a5, a6] e _ ?_]; rfl
    rw [heap_setCell_same _ b 2 #[v0, v1, a2, a3, a4, a5, a6] e _ ?_]; rfl
    rw [heap_setCell_same _ b 1 #[v0, a1, a2, a3, a4, a5, a6] e _ ?_]; rfl
    rw [heap_setCell_same _ b 0 #[a0, a1, a2, a3, a4, a5, a6] e _ h]; rfl
  · exact ((((((ks _ b 0 v0).trans (ks _ b 1 v1)).trans (ks _ b 2 v2)).trans (ks _ b 3 v3)).trans (ks _ b 4 v4)).trans (ks _ b 5 v5)).trans (ks _ b 6 v6)

theorem leaveB {P : Program} {fn : Func} {tmps : Array Value} {R : Ending → World → Prop} {w : World} {v : Value} (hr : (results fn tmps).run P w = .ok v w) (h : R (.returned v) w) :
    bodyPost P fn R .ret { tmps := tmps, defers := [] } w := ⟨rfl, v, hr, h⟩

theorem res8 {W : World} {b : Nat} {c : Int} {v0 v1 v2 v3 v4 v5 v6 : Value} {tmps : Array Value} (h : W.heap[b]? = some (.cells #[v0, v1, v2, v3, v4, v5, v6] 29 (0, 0)))
    (h2 : tmps[2]? = some (.pointer (some ⟨b, 0, none⟩))) (h3 : tmps[3]? = some (.int .i64 c)) :
    (results Try.f8 tmps).run Try.prog W = .ok (.tuple #[.agg #[v0, v1, v2, v3, v4, v5, v6], .int .i64 c]) W := by
  have k0 := cell_of_heap h 0
  have k1 := cell_of_heap h 1
  have k2 := cell_of_heap h 2
  have k3 := cell_of_heap h 3
  have k4 := cell_of_heap h 4
  have k5 := cell_of_heap h 5
  have k6 := cell_of_heap h 6
  simp only [List.getElem?_toArray, List.getElem?_cons_zero, List.getElem?_cons_succ] at k0 k1 k2 k3 k4 k5 k6
  simp [results, Try.results8, go_sem, h2, h3, k0, k1, k2, k3, k4, k5, k6]

set_option maxHeartbeats 1000000 in
set_option maxRecDepth 100000 in
theorem decode_bad (s : ByteArray) (w : World) (hs : s.size ≤ 140737488351232) {A : List UInt8} {c : Int} (h : opened s.data.toList = (A, c)) (hc : c ≠ 0) :
    Calls Try.prog 8 #[.string s] w (ManPost (Man.zero, c) w) := by
  have hd : (c != 0) = true := by rw [bne_iff_ne]; exact hc
  have HO : Hid (∀ w, Calls Try.prog 26 #[.string s] w fun e w' => e = .returned (.tuple #[.string (str A), .int .i64 c]) ∧ Below w.heap.size w w') := fun w => open_is s hs h w
  clear h hc
  go_enter Try.func8, Try.ntmps8
  go_wp2_with fail
  refine (HO.out _).mono ?_
  rintro e w1 ⟨rfl, hb⟩
  have hx : w1.heap[w.heap.size]? = some (.cells #[.string ⟨#[]⟩, .int .u64 0, .int .i64 0, .int .i64 0, .string ⟨#[]⟩, .int .i64 0, .slice none 0 0] 29 (0, 0)) := by
    rw [hb.block _ (by simp)]; exact heap_alloc_new w _
  have HB := Lib.hid (alloc_trans hb)
  clear hb
  have k0 := cell_of_heap hx 0
  have k1 := cell_of_heap hx 1
  have k2 := cell_of_heap hx 2
  have k3 := cell_of_heap hx 3
  have k4 := cell_of_heap hx 4
  have k5 := cell_of_heap hx 5
  have k6 := cell_of_heap hx 6
  have f := frozen_of_heap hx
  simp only [List.getElem?_toArray, List.getElem?_cons_zero, List.getElem?_cons_succ] at k0 k1 k2 k3 k4 k5 k6
  have HX := Lib.hid hx
  clear hx
  go_wp2
  obtain ⟨g1, g2⟩ := seven HX.out (.string ⟨#[]⟩) (.int .u64 0) (.int .i64 0) (.int .i64 0) (.string ⟨#[]⟩) (.int .i64 0) (.slice none 0 0)
  exact leaveB (res8 g1 rfl rfl) (manPost_zero c (HB.out.trans (g2.below (fun k e => by omega) HB.out.size)))
set_option maxHeartbeats 1000000 in
set_option maxRecDepth 100000 in
theorem decode_kind (s : ByteArray) (w : World) (hs : s.size ≤ 140737488351232) {A : List UInt8} (h : opened s.data.toList = (A, 0)) (hp : Lib.hasPrefix A [77, 65, 78, 50] = false) :
    Calls Try.prog 8 #[.string s] w (ManPost (Man.zero, 14) w) := by
  have HO : Hid (∀ w, Calls Try.prog 26 #[.string s] w fun e w' => e = .returned (.tuple #[.string (str A), .int .i64 0]) ∧ Below w.heap.size w w') := fun w => open_is s hs h w
  have HP : Hid (∀ w, Calls Try.prog 27 #[.string (str A), .string ⟨#[77, 65, 78, 50]⟩] w fun e w' => e = .returned (.bool false) ∧ w' = w) := fun w => by
    have := Try.strings_HasPrefix (str A) ⟨#[77, 65, 78, 50]⟩ w
    rw [str_data, hp] at this
    exact this
  clear h hp
  go_enter Try.func8, Try.ntmps8
  go_wp2_with fail
  refine (HO.out _).mono ?_
  rintro e w1 ⟨rfl, hb⟩
  have hx : w1.heap[w.heap.size]? = some (.cells #[.string ⟨#[]⟩, .int .u64 0, .int .i64 0, .int .i64 0, .string ⟨#[]⟩, .int .i64 0, .slice none 0 0] 29 (0, 0)) := by
    rw [hb.block _ (by simp)]; exact heap_alloc_new w _
  have HB := Lib.hid (alloc_trans hb)
  clear hb
  have k0 := cell_of_heap hx 0
  have k1 := cell_of_heap hx 1
  have k2 := cell_of_heap hx 2
  have k3 := cell_of_heap hx 3
  have k4 := cell_of_heap hx 4
  have k5 := cell_of_heap hx 5
  have k6 := cell_of_heap hx 6
  have f := frozen_of_heap hx
  simp only [List.getElem?_toArray, List.getElem?_cons_zero, List.getElem?_cons_succ] at k0 k1 k2 k3 k4 k5 k6
  have HX := Lib.hid hx
  clear hx
  go_wp2_with fail
  refine (HP.out _).mono ?_
  rintro e w1 ⟨rfl, rfl⟩
  go_wp2
  obtain ⟨g1, g2⟩ := seven HX.out (.string ⟨#[]⟩) (.int .u64 0) (.int .i64 0) (.int .i64 0) (.string ⟨#[]⟩) (.int .i64 0) (.slice none 0 0)
  exact leaveB (res8 g1 rfl rfl) (manPost_zero 14 (HB.out.trans (g2.below (fun k e => by omega) HB.out.size)))
end Go.Proofs.Ytmkcphelmgkipaa
