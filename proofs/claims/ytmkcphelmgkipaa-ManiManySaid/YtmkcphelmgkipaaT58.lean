import Derived.Test.YtmkcphelmgkipaaT57
import Derived.Test.YtmkcphelmgkipaaT38
import Derived.Deep.RegionHeld3
set_option linter.unusedVariables false
set_option linter.unusedSimpArgs false
namespace Go.Proofs.Ytmkcphelmgkipaa
open Go.RowKit
attribute [local go_sem ↓] Go.wp_at_zero Go.wp_at_succ

/-! Plain, with the new slice's capacity; Find of the document's answer. -/

theorem own_cap {w : World} {base : Nat} {e : TypeId} {size n : Nat} {v : Value} {xs : List Value} (h : w.ownsRow base e size v n xs) : CapOk v n := by
  rcases h.2 with ⟨h0, hn⟩ | ⟨g, cap, cur, e1, _, _, e4, e5, _⟩
  · subst hn; exact ⟨none, 0, h0, fun _ => rfl, Nat.le_refl _, by unfold maxLen; omega⟩
  · exact ⟨_, cap, e1, (fun e => by cases e), e4, e5⟩

def PlainPost (m : Man) (w : World) (e : Ending) (w' : World) : Prop := ∃ sv', e = .returned (m.val sv') ∧ SnapsAt w' sv' m.snaps ∧ Below w.heap.size w w' ∧ CapOk sv' m.snaps.length

set_option maxHeartbeats 2000000 in
set_option maxRecDepth 100000 in
theorem lplain_cap (m : Man) (sv : Value) (w : World) (h : SnapsAt w sv m.snaps) (hl : m.snaps.length ≤ 1000000) :
    Calls Try.prog 14 #[m.val sv] w (PlainPost m w) := by
  obtain ⟨v, key, serial, size, bv, bs, l⟩ := m
  simp only [Man.val] at *
  obtain ⟨W0, hW0⟩ : ∃ W0, W0 = (w.alloc (.cells #[.string v, .int .u64 key, .int .i64 serial, .int .i64 size, .string bv, .int .i64 bs, sv] 29)).alloc (.cells #[.string ⟨#[]⟩, .int .u64 0, .int .i64 0, .int .i64 0, .string ⟨#[]⟩, .int .i64 0, .slice none 0 0] 35) := ⟨_, rfl⟩
  have hb0 : Below w.heap.size w W0 := by rw [hW0]; exact ((Below.refl _ w).alloc (Nat.le_refl _) _).alloc (by simp) _
  have hS0 : SnapsAt W0 sv l := h.below hb0 (Nat.le_refl _)
  have hz0 : W0.heap.size = w.heap.size + 2 := by rw [hW0]; simp
  have hA0 : W0.heap[w.heap.size]? = some (.cells #[.string v, .int .u64 key, .int .i64 serial, .int .i64 size, .string bv, .int .i64 bs, sv] 29 (0, 0)) := by
    rw [hW0, Below.heap_alloc _ _ _ (by simp)]; exact heap_alloc_new w _
  have hB0 : W0.heap[w.heap.size + 1]? = some (.cells #[.string ⟨#[]⟩, .int .u64 0, .int .i64 0, .int .i64 0, .string ⟨#[]⟩, .int .i64 0, .slice none 0 0] 35 (0, 0)) := by
    rw [hW0]; have := heap_alloc_new (w.alloc (.cells #[.string v, .int .u64 key, .int .i64 serial, .int .i64 size, .string bv, .int .i64 bs, sv] 29)) (.cells #[.string ⟨#[]⟩, .int .u64 0, .int .i64 0, .int .i64 0, .string ⟨#[]⟩, .int .i64 0, .slice none 0 0] 35)
    rwa [World.size_alloc] at this
  obtain ⟨sa, scap, rfl, _⟩ := h
  have HS0 := Lib.hid hS0
  have HW0 := Lib.hid hW0
  have HA0 := Lib.hid hA0
  have HB0 := Lib.hid hB0
  have HBW := Lib.hid hb0
  clear hS0 hb0 hB0
  go_enter Try.func14, Try.ntmps14
  go_wp2_with fail
  have hne : w.heap.size ≠ w.heap.size + 1 := by omega
  rw [← HW0.out]
  have j0 := cell_of_heap hA0 0
  have j1 := cell_of_heap hA0 1
  have j2 := cell_of_heap hA0 2
  have j3 := cell_of_heap hA0 3
  have j4 := cell_of_heap hA0 4
  have j5 := cell_of_heap hA0 5
  have j6 := cell_of_heap hA0 6
  simp only [List.getElem?_toArray, List.getElem?_cons_zero, List.getElem?_cons_succ] at j0 j1 j2 j3 j4 j5 j6
  clear hA0 hW0
  go_region_held3 (fun w' => w'.cell? ⟨w.heap.size, 0, none⟩ = some (.string v) ∧ w'.cell? ⟨w.heap.size, 1, none⟩ = some (.int .u64 key) ∧ w'.cell? ⟨w.heap.size, 2, none⟩ = some (.int .i64 serial) ∧ w'.cell? ⟨w.heap.size, 3, none⟩ = some (.int .i64 size) ∧
      w'.cell? ⟨w.heap.size, 4, none⟩ = some (.string bv) ∧ w'.cell? ⟨w.heap.size, 5, none⟩ = some (.int .i64 bs) ∧ w'.cell? ⟨w.heap.size, 6, none⟩ = some (.slice sa l.length scap))
    (first | go_keep)
    ((first
      | (go_at_call 21; refine (snaps_any _ l _ ?_ hl).mono ?_; (exact HS0.out); rintro e w1 ⟨sv', rfl, hS1, hb1⟩
         obtain ⟨ta, tcap, rfl⟩ := owns_slice hS1
         have hz1 := hb1.size
         have hA1 := (hb1.block w.heap.size (by show _ < W0.heap.size; omega)).trans HA0.out
         have hB1 := (hb1.block (w.heap.size + 1) (by show _ < W0.heap.size; omega)).trans HB0.out
         have i0 := cell_of_heap hA1 0
         have i1 := cell_of_heap hA1 1
         have i2 := cell_of_heap hA1 2
         have i3 := cell_of_heap hA1 3
         have i4 := cell_of_heap hA1 4
         have i5 := cell_of_heap hA1 5
         have i6 := cell_of_heap hA1 6
         have k0 := cell_of_heap hB1 0
         have k1 := cell_of_heap hB1 1
         have k2 := cell_of_heap hB1 2
         have k3 := cell_of_heap hB1 3
         have k4 := cell_of_heap hB1 4
         have k5 := cell_of_heap hB1 5
         have k6 := cell_of_heap hB1 6
         have f := frozen_of_heap hB1
         simp only [List.getElem?_toArray, List.getElem?_cons_zero, List.getElem?_cons_succ] at k0 k1 k2 k3 k4 k5 k6 i0 i1 i2 i3 i4 i5 i6)))
  have HB1 := Lib.hid hB1
  have HS1 := Lib.hid hS1
  have HBB := Lib.hid hb1
  clear hA1 hB1 hS1 hb1 i0 i1 i2 i3 i4 i5 i6 k0 k1 k2 k3 k4 k5 k6 f
  go_wp2
  obtain ⟨g1, g2⟩ := seven HB1.out (.string v) (.int .u64 key) (.int .i64 serial) (.int .i64 size) (.string bv) (.int .i64 bs) (.slice ta l.length tcap)
  refine leaveB (res14 g1 rfl) ⟨_, rfl, ?_, ?_, own_cap HS1.out⟩
  · have hs := HS1.out
    exact snaps_of_rowE (row_kept hs g2 (fun j e1 e2 => by have := (hs.lt j e1).1; have : W0.drew.heap.size = W0.heap.size := rfl; omega))
  · have hq : Below W0.heap.size W0 w1 := ⟨HBB.out.os, HBB.out.tape, HBB.out.output, HBB.out.size, HBB.out.block⟩
    have hb : Below w.heap.size w w1 := HBW.out.trans (hq.mono (by omega))
    have := hb.size
    exact hb.trans (g2.below (fun k e => by omega) (by omega))

set_option maxHeartbeats 2000000 in
set_option maxRecDepth 100000 in
theorem find_any (m : Man) (sv : Value) (name : ByteArray) (w : World) (hS : SnapsAt w sv m.snaps) (hl : m.snaps.length ≤ 1000000) :
    Calls Try.prog 53 #[m.val sv, .string name] w fun e w' => e = .returned (.int .i64 (fndI m.snaps name)) ∧ Below w.heap.size w w' := by
  have HF : Hid (∀ k, k < m.snaps.length → (∀ j, j < k → isN name (m.snaps.getD j Snp.zero) = false) → isN name (m.snaps.getD k Snp.zero) = true → fndI m.snaps name = k) := fun k hk h0 h1 => fnd_at hk h0 h1
  have HN : Hid ((∀ j, j < m.snaps.length → isN name (m.snaps.getD j Snp.zero) = false) → fndI m.snaps name = -1) := fun h => fnd_no h
  generalize fndI m.snaps name = r at *
  obtain ⟨v, key, serial, size, bv, bs, l⟩ := m
  simp only [Man.val] at *
  obtain ⟨a, cap, rfl, hcs⟩ := hS
  have HCS := Lib.hid hcs
  obtain ⟨W0, hW0⟩ : ∃ W0, W0 = w.alloc (.cells #[.string v, .int .u64 key, .int .i64 serial, .int .i64 size, .string bv, .int .i64 bs, .slice a l.length cap] 35) := ⟨_, rfl⟩
  obtain ⟨hA0, hb0, _⟩ := one_new w #[.string v, .int .u64 key, .int .i64 serial, .int .i64 size, .string bv, .int .i64 bs, .slice a l.length cap] 35
  rw [← hW0] at hA0 hb0
  obtain ⟨x0, x1, x2, x3, x4, x5, x6⟩ := cells7 hA0
  have HW0 := Lib.hid hW0
  have HB0 := Lib.hid hb0
  clear hcs hW0 hA0 hb0 x0 x1 x2 x3 x4 x5
  go_enter Try.func53, Try.ntmps53
  go_wp2_with fail
  rw [← HW0.out]
  go_loopw [5] (fun i wr => ∃ k : Nat, i = .int .i64 k ∧ k ≤ l.length ∧ wr = W0 ∧ Hid (∀ j, j < k → isN name (l.getD j Snp.zero) = false)) (fun i _ => l.length - (intOf i).toNat)
  case atStart => exact ⟨0, rfl, by omega, rfl, fun j hj => by omega⟩
  case round =>
    obtain ⟨k, rfl, hkl, rfl, hno⟩ := hrel
    by_cases hlt : k < l.length
    · obtain ⟨b, off, rfl, hc0, hc1, hc2⟩ := HCS.out k hlt
      have c0 := (HB0.out.cell (p := ⟨b, off + k * 3, none⟩) (World.block_lt_of_cell? _ _ hc0)).trans hc0
      have hk0 : (0 : Int) ≤ (k : Int) := Int.natCast_nonneg _
      have hk1 : (k : Int) < (l.length : Int) := by omega
      obtain ⟨x, hx⟩ : ∃ x, x = l.getD k Snp.zero := ⟨_, rfl⟩
      rw [← hx] at c0
      have HX := Lib.hid hx
      have heq : (x.name.toList == name.toList) = isN name x := rfl
      cases ht : isN name x with
      | true =>
        rw [ht] at heq
        have HT := Lib.hid ht
        clear hc0 hc1 hc2 hx ht
        go_wp2
        go_ret
        exact ⟨ret_int (HF.out k hlt hno.out (by rw [← HX.out]; exact HT.out)).symm, HB0.out⟩
      | false =>
        rw [ht] at heq
        have HT := Lib.hid ht
        clear hc0 hc1 hc2 hx ht
        go_wp2
        go_roundw
        case rel =>
          refine ⟨k + 1, by go_num, by omega, trivial, fun j hj => ?_⟩
          by_cases e : j = k
          · subst e; rw [← HX.out]; exact HT.out
          · exact hno.out j (by omega)
        case measure => simp [intOf]; omega
    · obtain rfl : k = l.length := by omega
      go_wp2
      go_ret
      exact ⟨ret_int (HN.out hno.out).symm, HB0.out⟩

theorem grown_same {w w' : World} {row : Option Nat} {b : Nat} {x : Obj} (hg : w.grownBy w' row) (h : w.heap[b]? = some x) (hne : row ≠ some b) : w'.heap[b]? = some x :=
  (hg.block b (World.lt_of_heap h) (fun e => hne e.symm)).trans h
end Go.Proofs.Ytmkcphelmgkipaa
