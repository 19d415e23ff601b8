import Derived.Test.YtmkcphelmgkipaaT45
import Derived.Test.YtmkcphelmgkipaaT49
import Derived.Deep.Cut
import Derived.Outline
set_option linter.unusedVariables false
set_option linter.unusedSimpArgs false
namespace Go.Proofs.Ytmkcphelmgkipaa
open Go.RowKit
attribute [local go_sem ↓] Go.wp_at_zero Go.wp_at_succ

set_option maxHeartbeats 2000000 in
set_option maxRecDepth 100000 in
theorem msame_any (m : Man) (sv sv' : Value) (w : World) (h : SnapsAt w sv m.snaps) (h' : SnapsAt w sv' m.snaps) (hl : m.snaps.length ≤ 1000000) :
    Calls Try.prog 18 #[m.val sv, m.val sv'] w fun e w' => e = .returned (.bool true) ∧ Below w.heap.size w w' := by
  obtain ⟨v, key, serial, size, bv, bs, l⟩ := m
  simp only [Man.val] at *
  have HE : Hid (∀ W, SnapsAt W sv l → SnapsAt W sv' l → Calls Try.prog 46 #[sv, sv'] W fun e w' => e = .returned (.bool true) ∧ Drew W w') := fun W hA hB => equal_any l sv sv' W hA hB hl
  have HSA := Lib.hid h
  have HSB := Lib.hid h'
  obtain ⟨sa, scap, rfl, hcs⟩ := h
  obtain ⟨ta, tcap, rfl, hct⟩ := h'
  obtain ⟨W0, hW0⟩ : ∃ W0, W0 = (w.alloc (.cells #[.string v, .int .u64 key, .int .i64 serial, .int .i64 size, .string bv, .int .i64 bs, .slice sa l.length scap] 29)).alloc (.cells #[.string v, .int .u64 key, .int .i64 serial, .int .i64 size, .string bv, .int .i64 bs, .slice ta l.length tcap] 29) := ⟨_, rfl⟩
  have hb0 : Below w.heap.size w W0 := by rw [hW0]; exact ((Below.refl _ w).alloc (Nat.le_refl _) _).alloc (by simp) _
  have hA0 : W0.heap[w.heap.size]? = some (.cells #[.string v, .int .u64 key, .int .i64 serial, .int .i64 size, .string bv, .int .i64 bs, .slice sa l.length scap] 29 (0, 0)) := by
    rw [hW0, Below.heap_alloc _ _ _ (by simp)]; exact heap_alloc_new w _
  have hB0 : W0.heap[w.heap.size + 1]? = some (.cells #[.string v, .int .u64 key, .int .i64 serial, .int .i64 size, .string bv, .int .i64 bs, .slice ta l.length tcap] 29 (0, 0)) := by
    rw [hW0]; have := heap_alloc_new (w.alloc (.cells #[.string v, .int .u64 key, .int .i64 serial, .int .i64 size, .string bv, .int .i64 bs, .slice sa l.length scap] 29)) (.cells #[.string v, .int .u64 key, .int .i64 serial, .int .i64 size, .string bv, .int .i64 bs, .slice ta l.length tcap] 29)
    rwa [World.size_alloc] at this
  clear hcs hct
  have a6 := cell_of_heap hA0 6
  have b6 := cell_of_heap hB0 6
  have fa := frozen_of_heap hA0
  have fb := frozen_of_heap hB0
  simp only [List.getElem?_toArray, List.getElem?_cons_zero, List.getElem?_cons_succ] at a6 b6
  have HW0 := Lib.hid hW0
  have HA0 := Lib.hid hA0
  have HB0 := Lib.hid hB0
  have HBW := Lib.hid hb0
  clear hW0 hA0 hB0 hb0
  go_enter Try.func18, Try.ntmps18
  go_wp2_with fail
  rw [← HW0.out]
  go_quiet (fail)
  go_wp2_with fail
  have hb1 : Below w.heap.size w (((W0.drewN nq).setCell ⟨w.heap.size, 6, none⟩ (.slice none 0 0)).setCell ⟨w.heap.size + 1, 6, none⟩ (.slice none 0 0)) :=
    ((HBW.out.trans (drew_below ⟨nq, rfl⟩ _ HBW.out.size)).setCell (Nat.le_refl _) _).setCell (Nat.le_succ _) _
  have hA1 : (((W0.drewN nq).setCell ⟨w.heap.size, 6, none⟩ (.slice none 0 0)).setCell ⟨w.heap.size + 1, 6, none⟩ (.slice none 0 0)).heap[w.heap.size]? = some (.cells #[.string v, .int .u64 key, .int .i64 serial, .int .i64 size, .string bv, .int .i64 bs, .slice none 0 0] 29 (0, 0)) := by
    rw [heap_setCell_other _ _ _ _ (by show w.heap.size ≠ w.heap.size + 1; omega)]
    exact heap_setCell_same _ w.heap.size 6 _ 29 _ HA0.out
  have hB1 : (((W0.drewN nq).setCell ⟨w.heap.size, 6, none⟩ (.slice none 0 0)).setCell ⟨w.heap.size + 1, 6, none⟩ (.slice none 0 0)).heap[w.heap.size + 1]? = some (.cells #[.string v, .int .u64 key, .int .i64 serial, .int .i64 size, .string bv, .int .i64 bs, .slice none 0 0] 29 (0, 0)) := by
    refine heap_setCell_same _ (w.heap.size + 1) 6 #[.string v, .int .u64 key, .int .i64 serial, .int .i64 size, .string bv, .int .i64 bs, .slice ta l.length tcap] 29 _ ?_
    rw [heap_setCell_other _ _ _ _ (by show w.heap.size + 1 ≠ w.heap.size; omega)]
    exact HB0.out
  have hSA := HSA.out.below hb1 (Nat.le_refl _)
  have hSB := HSB.out.below hb1 (Nat.le_refl _)
  generalize (((W0.drewN nq).setCell ⟨w.heap.size, 6, none⟩ (.slice none 0 0)).setCell ⟨w.heap.size + 1, 6, none⟩ (.slice none 0 0)) = W1 at *
  refine (HE.out W1 hSA hSB).mono ?_
  rintro e w2 ⟨rfl, hd⟩
  have hA2 := (congrArg (fun h => h[w.heap.size]?) (drew_heap hd)).trans hA1
  have hB2 := (congrArg (fun h => h[w.heap.size + 1]?) (drew_heap hd)).trans hB1
  have hb2 := hb1.trans (drew_below hd _ hb1.size)
  obtain ⟨x0, x1, x2, x3, x4, x5, x6⟩ := cells7 hA2
  obtain ⟨y0, y1, y2, y3, y4, y5, y6⟩ := cells7 hB2
  clear a6 b6 fa fb hA1 hB1 hA2 hB2 hd hb1 hSA hSB
  have HB2 := Lib.hid hb2
  clear hb2
  go_wp2
  go_ret
  exact ⟨rfl, HB2.out⟩
end Go.Proofs.Ytmkcphelmgkipaa
