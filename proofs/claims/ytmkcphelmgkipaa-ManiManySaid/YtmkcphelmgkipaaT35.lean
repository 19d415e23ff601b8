import Derived.Test.YtmkcphelmgkipaaT34
set_option linter.unusedVariables false
set_option linter.unusedSimpArgs false
namespace Go.Proofs.Ytmkcphelmgkipaa
open Go.RowKit
attribute [local go_sem ↓] Go.wp_at_zero Go.wp_at_succ

theorem res14 {W : World} {b : Nat} {v0 v1 v2 v3 v4 v5 v6 : Value} {tmps : Array Value} (h : W.heap[b]? = some (.cells #[v0, v1, v2, v3, v4, v5, v6] 35 (0, 0)))
    (h2 : tmps[2]? = some (.pointer (some ⟨b, 0, none⟩))) :
    (results Try.f14 tmps).run Try.prog W = .ok (.agg #[v0, v1, v2, v3, v4, v5, v6]) W := by
  have k0 := cell_of_heap h 0
  have k1 := cell_of_heap h 1
  have k2 := cell_of_heap h 2
  have k3 := cell_of_heap h 3
  have k4 := cell_of_heap h 4
  have k5 := cell_of_heap h 5
  have k6 := cell_of_heap h 6
  simp only [List.getElem?_toArray, List.getElem?_cons_zero, List.getElem?_cons_succ] at k0 k1 k2 k3 k4 k5 k6
  simp [results, Try.results14, go_sem, h2, k0, k1, k2, k3, k4, k5, k6]

set_option maxHeartbeats 2000000 in
set_option maxRecDepth 100000 in
theorem lplain_any (m : Man) (sv : Value) (w : World) (h : SnapsAt w sv m.snaps) (hl : m.snaps.length ≤ 1000000) :
    Calls Try.prog 14 #[m.val sv] w fun e w' => ∃ sv', e = .returned (m.val sv') ∧ SnapsAt w' sv' m.snaps ∧ Below w.heap.size w w' := by
  obtain ⟨v, key, serial, size, bv, bs, l⟩ := m
  simp only [Man.val] at *
  obtain ⟨W0, hW0⟩ : ∃ W0, W0 = (w.alloc (.cells #[.string v, .int .u64 key, .int .i64 serial, .int .i64 size, .string bv, .int .i64 bs, sv] 29)).alloc (.cells #[.string ⟨#[]⟩, .int .u64 0, .int .i64 0, .int .i64 0, .string ⟨#[]⟩, .int .i64 0, .slice none 0 0] 35) := ⟨_, rfl⟩
  have hb0 : Below w.heap.size w W0 := by rw [hW0]; exact ((Below.refl _ w).alloc (Nat.le_refl _) _).alloc (by simp) _
  have hS0 : SnapsAt W0 sv l := h.below hb0 (Nat.le_refl _)
  have hz0 : W0.heap.size = w.heap.size + 2 := by rw [hW0]; simp
  have hA0 : W0.heap[w.heap.size]? = some (.cells #[.string v, .int .u64 key, .int .i64 serial, .int .i64 size, .string bv, .int .i64 bs, sv] 29 (0, 0)) := by
    rw [hW0, Below.heap_alloc _ _ _ (by simp)]; exact heap_alloc_new w _
  have hB0 : W0.heap[w.heap.size + 1]? = some (.cells #[.string ⟨#[]⟩, .int .u64 0, .int .i64 0, .int .i64 0, .string ⟨#[]⟩, .int .i64 0, .slice none 0 0] 35 (0, 0)) := by
    rw [hW0]; have := heap_alloc_new (w.alloc (.cells #[.string v, .int .u64 key, .int .i64 serial, .int .i64 size, .string bv, .int .i64 bs, sv] 29)) (.cells #[.string ⟨#[]⟩, .int .u64 0, .int .i64 0, .int .i64 0, .string ⟨#[]⟩, .int .i64 0, .slice none 0 0] 35)
    rwa [World.size_alloc] at this
  obtain ⟨sa, scap, rfl, _⟩ := h
  have HS0 := Lib.hid hS0
  have HW0 := Lib.hid hW0
  have HA0 := Lib.hid hA0
  have HB0 := Lib.hid hB0
  have HBW := Lib.hid hb0
  clear hS0 hb0 hB0
  go_enter Try.func14, Try.ntmps14
  go_wp2_with fail
  have hne : w.heap.size ≠ w.heap.size + 1 := by omega
  rw [← HW0.out]
  have j0 := cell_of_heap hA0 0
  have j1 := cell_of_heap hA0 1
  have j2 := cell_of_heap hA0 2
  have j3 := cell_of_heap hA0 3
  have j4 := cell_of_heap hA0 4
  have j5 := cell_of_heap hA0 5
  have j6 := cell_of_heap hA0 6
  simp only [List.getElem?_toArray, List.getElem?_cons_zero, List.getElem?_cons_succ] at j0 j1 j2 j3 j4 j5 j6
  clear hA0 hW0
  go_region_held3 (fun w' => w'.cell? ⟨w.heap.size, 0, none⟩ = some (.string v) ∧ w'.cell? ⟨w.heap.size, 1, none⟩ = some (.int .u64 key) ∧ w'.cell? ⟨w.heap.size, 2, none⟩ = some (.int .i64 serial) ∧ w'.cell? ⟨w.heap.size, 3, none⟩ = some (.int .i64 size) ∧
      w'.cell? ⟨w.heap.size, 4, none⟩ = some (.string bv) ∧ w'.cell? ⟨w.heap.size, 5, none⟩ = some (.int .i64 bs) ∧ w'.cell? ⟨w.heap.size, 6, none⟩ = some (.slice sa l.length scap))
    (first | go_keep)
    ((first
      | (go_at_call 21; refine (snaps_any _ l _ ?_ hl).mono ?_; (exact HS0.out); rintro e w1 ⟨sv', rfl, hS1, hb1⟩
         obtain ⟨ta, tcap, rfl⟩ := owns_slice hS1
         have hz1 := hb1.size
         have hA1 := (hb1.block w.heap.size (by show _ < W0.heap.size; omega)).trans HA0.out
         have hB1 := (hb1.block (w.heap.size + 1) (by show _ < W0.heap.size; omega)).trans HB0.out
         have i0 := cell_of_heap hA1 0
         have i1 := cell_of_heap hA1 1
         have i2 := cell_of_heap hA1 2
         have i3 := cell_of_heap hA1 3
         have i4 := cell_of_heap hA1 4
         have i5 := cell_of_heap hA1 5
         have i6 := cell_of_heap hA1 6
         have k0 := cell_of_heap hB1 0
         have k1 := cell_of_heap hB1 1
         have k2 := cell_of_heap hB1 2
         have k3 := cell_of_heap hB1 3
         have k4 := cell_of_heap hB1 4
         have k5 := cell_of_heap hB1 5
         have k6 := cell_of_heap hB1 6
         have f := frozen_of_heap hB1
         simp only [List.getElem?_toArray, List.getElem?_cons_zero, List.getElem?_cons_succ] at k0 k1 k2 k3 k4 k5 k6 i0 i1 i2 i3 i4 i5 i6)))
  have HB1 := Lib.hid hB1
  have HS1 := Lib.hid hS1
  have HBB := Lib.hid hb1
  clear hA1 hB1 hS1 hb1 i0 i1 i2 i3 i4 i5 i6 k0 k1 k2 k3 k4 k5 k6 f
  go_wp2
  obtain ⟨g1, g2⟩ := seven HB1.out (.string v) (.int .u64 key) (.int .i64 serial) (.int .i64 size) (.string bv) (.int .i64 bs) (.slice ta l.length tcap)
  refine leaveB (res14 g1 rfl) ⟨_, rfl, ?_, ?_⟩
  · have hs := HS1.out
    exact snaps_of_rowE (row_kept hs g2 (fun j e1 e2 => by have := (hs.lt j e1).1; have : W0.drew.heap.size = W0.heap.size := rfl; omega))
  · have hq : Below W0.heap.size W0 w1 := ⟨HBB.out.os, HBB.out.tape, HBB.out.output, HBB.out.size, HBB.out.block⟩
    have hb : Below w.heap.size w w1 := HBW.out.trans (hq.mono (by omega))
    have := hb.size
    exact hb.trans (g2.below (fun k e => by omega) (by omega))
end Go.Proofs.Ytmkcphelmgkipaa
