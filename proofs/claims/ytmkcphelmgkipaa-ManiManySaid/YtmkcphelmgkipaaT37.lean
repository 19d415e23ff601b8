import Derived.Test.YtmkcphelmgkipaaT36
set_option linter.unusedVariables false
set_option linter.unusedSimpArgs false
namespace Go.Proofs.Ytmkcphelmgkipaa
open Go.RowKit
attribute [local go_sem ↓] Go.wp_at_zero Go.wp_at_succ

set_option maxHeartbeats 4000000 in
set_option maxRecDepth 100000 in
theorem like_any (m : Man) (c : Int) (sv sv' : Value) (w : World) (h : SnapsAt w sv m.snaps) (h' : SnapsAt w sv' m.snaps) (hl : m.snaps.length ≤ 1000000) :
    Calls Try.prog 10 #[m.val sv, .int .i64 c, m.val sv', .int .i64 c] w fun e w' => e = .returned (.bool true) ∧ Below w.heap.size w w' := by
  have HP : Hid (∀ W, SnapsAt W sv m.snaps → Calls Try.prog 14 #[m.val sv] W fun e w' => ∃ sv', e = .returned (m.val sv') ∧ SnapsAt w' sv' m.snaps ∧ Below W.heap.size W w') := fun W hS => lplain_any m sv W hS hl
  have HE : Hid (∀ W sa, SnapsAt W sa m.snaps → SnapsAt W sv' m.snaps → Calls Try.prog 13 #[m.val sa, m.val sv'] W fun e w' => e = .returned (.bool true) ∧ Below W.heap.size W w') := fun W sa hA hB => rsame_any m sa sv' W hA hB hl
  obtain ⟨v, key, serial, size, bv, bs, l⟩ := m
  simp only [Man.val] at *
  obtain ⟨W0, hW0⟩ : ∃ W0, W0 = (w.alloc (.cells #[.string v, .int .u64 key, .int .i64 serial, .int .i64 size, .string bv, .int .i64 bs, sv] 29)).alloc (.cells #[.string v, .int .u64 key, .int .i64 serial, .int .i64 size, .string bv, .int .i64 bs, sv'] 35) := ⟨_, rfl⟩
  have hb0 : Below w.heap.size w W0 := by rw [hW0]; exact ((Below.refl _ w).alloc (Nat.le_refl _) _).alloc (by simp) _
  have hz0 : W0.heap.size = w.heap.size + 2 := by rw [hW0]; simp
  have hA0 : W0.heap[w.heap.size]? = some (.cells #[.string v, .int .u64 key, .int .i64 serial, .int .i64 size, .string bv, .int .i64 bs, sv] 29 (0, 0)) := by
    rw [hW0, Below.heap_alloc _ _ _ (by simp)]; exact heap_alloc_new w _
  have hB0 : W0.heap[w.heap.size + 1]? = some (.cells #[.string v, .int .u64 key, .int .i64 serial, .int .i64 size, .string bv, .int .i64 bs, sv'] 35 (0, 0)) := by
    rw [hW0]; have := heap_alloc_new (w.alloc (.cells #[.string v, .int .u64 key, .int .i64 serial, .int .i64 size, .string bv, .int .i64 bs, sv] 29)) (.cells #[.string v, .int .u64 key, .int .i64 serial, .int .i64 size, .string bv, .int .i64 bs, sv'] 35)
    rwa [World.size_alloc] at this
  have HSA := Lib.hid (h.below hb0 (Nat.le_refl _))
  have HSB := Lib.hid (h'.below hb0 (Nat.le_refl _))
  obtain ⟨sa, scap, rfl, _⟩ := h
  obtain ⟨ta, tcap, rfl, _⟩ := h'
  have HW0 := Lib.hid hW0
  have HZ0 := Lib.hid hz0
  have HBW := Lib.hid hb0
  have HA0 := Lib.hid hA0
  have HB0 := Lib.hid hB0
  have a0 := cell_of_heap hA0 0
  have a1 := cell_of_heap hA0 1
  have a2 := cell_of_heap hA0 2
  have a3 := cell_of_heap hA0 3
  have a4 := cell_of_heap hA0 4
  have a5 := cell_of_heap hA0 5
  have a6 := cell_of_heap hA0 6
  have b0 := cell_of_heap hB0 0
  have b1 := cell_of_heap hB0 1
  have b2 := cell_of_heap hB0 2
  have b3 := cell_of_heap hB0 3
  have b4 := cell_of_heap hB0 4
  have b5 := cell_of_heap hB0 5
  have b6 := cell_of_heap hB0 6
  simp only [List.getElem?_toArray, List.getElem?_cons_zero, List.getElem?_cons_succ] at a0 a1 a2 a3 a4 a5 a6 b0 b1 b2 b3 b4 b5 b6
  have hcc : (c == c) = true := by simp
  clear hW0 hb0 hA0 hB0
  go_enter Try.func10, Try.ntmps10
  go_wp2_with fail
  rw [← HW0.out]
  go_region_held3 (fun w' => w'.cell? ⟨w.heap.size, 0, none⟩ = some (.string v) ∧ w'.cell? ⟨w.heap.size, 1, none⟩ = some (.int .u64 key) ∧ w'.cell? ⟨w.heap.size, 2, none⟩ = some (.int .i64 serial) ∧ w'.cell? ⟨w.heap.size, 3, none⟩ = some (.int .i64 size) ∧
      w'.cell? ⟨w.heap.size, 4, none⟩ = some (.string bv) ∧ w'.cell? ⟨w.heap.size, 5, none⟩ = some (.int .i64 bs) ∧ w'.cell? ⟨w.heap.size, 6, none⟩ = some (.slice sa l.length scap) ∧
      w'.cell? ⟨w.heap.size + 1, 0, none⟩ = some (.string v) ∧ w'.cell? ⟨w.heap.size + 1, 1, none⟩ = some (.int .u64 key) ∧ w'.cell? ⟨w.heap.size + 1, 2, none⟩ = some (.int .i64 serial) ∧ w'.cell? ⟨w.heap.size + 1, 3, none⟩ = some (.int .i64 size) ∧
      w'.cell? ⟨w.heap.size + 1, 4, none⟩ = some (.string bv) ∧ w'.cell? ⟨w.heap.size + 1, 5, none⟩ = some (.int .i64 bs) ∧ w'.cell? ⟨w.heap.size + 1, 6, none⟩ = some (.slice ta l.length tcap))
    (first | (exact ⟨i0, i1, i2, i3, i4, i5, i6, k0, k1, k2, k3, k4, k5, k6⟩) | go_keep)
    ((first
      | (go_at_call 14; refine (HP.out _ ?_).mono ?_; (exact HSA.out); rintro e w1 ⟨su, rfl, hS1, hb1⟩
         have hz1 : w.heap.size + 2 ≤ w1.heap.size := by have := hb1.size; rw [show W0.drew.heap.size = W0.heap.size from rfl, HZ0.out] at this; exact this
         have hA1 := (hb1.block w.heap.size (by show _ < W0.heap.size; omega)).trans HA0.out
         have hB1 := (hb1.block (w.heap.size + 1) (by show _ < W0.heap.size; omega)).trans HB0.out
         have i0 := cell_of_heap hA1 0
         have i1 := cell_of_heap hA1 1
         have i2 := cell_of_heap hA1 2
         have i3 := cell_of_heap hA1 3
         have i4 := cell_of_heap hA1 4
         have i5 := cell_of_heap hA1 5
         have i6 := cell_of_heap hA1 6
         have k0 := cell_of_heap hB1 0
         have k1 := cell_of_heap hB1 1
         have k2 := cell_of_heap hB1 2
         have k3 := cell_of_heap hB1 3
         have k4 := cell_of_heap hB1 4
         have k5 := cell_of_heap hB1 5
         have k6 := cell_of_heap hB1 6
         simp only [List.getElem?_toArray, List.getElem?_cons_zero, List.getElem?_cons_succ] at k0 k1 k2 k3 k4 k5 k6 i0 i1 i2 i3 i4 i5 i6
         have hq1 : Below W0.heap.size W0 w1 := ⟨hb1.os, hb1.tape, hb1.output, hb1.size, hb1.block⟩
         have hT1 := HSB.out.below hq1 (Nat.le_refl _))
      | (go_at_call 13; refine (HE.out w1 _ hS1 hT1).mono ?_; rintro e w2 ⟨rfl, hb2⟩
         have hA2 := (hb2.block w.heap.size (by omega)).trans hA1
         have hB2 := (hb2.block (w.heap.size + 1) (by omega)).trans hB1
         have i0 := cell_of_heap hA2 0
         have i1 := cell_of_heap hA2 1
         have i2 := cell_of_heap hA2 2
         have i3 := cell_of_heap hA2 3
         have i4 := cell_of_heap hA2 4
         have i5 := cell_of_heap hA2 5
         have i6 := cell_of_heap hA2 6
         have k0 := cell_of_heap hB2 0
         have k1 := cell_of_heap hB2 1
         have k2 := cell_of_heap hB2 2
         have k3 := cell_of_heap hB2 3
         have k4 := cell_of_heap hB2 4
         have k5 := cell_of_heap hB2 5
         have k6 := cell_of_heap hB2 6)))
  go_wp2
  go_ret
  have hz := HZ0.out
  exact ⟨rfl, (HBW.out.trans (hq1.mono (by omega))).trans (hb2.mono (by omega))⟩
end Go.Proofs.Ytmkcphelmgkipaa
