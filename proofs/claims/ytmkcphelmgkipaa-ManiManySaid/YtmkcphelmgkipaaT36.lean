import Derived.Test.YtmkcphelmgkipaaT35
set_option linter.unusedVariables false
set_option linter.unusedSimpArgs false
namespace Go.Proofs.Ytmkcphelmgkipaa
open Go.RowKit
attribute [local go_sem ↓] Go.wp_at_zero Go.wp_at_succ

set_option maxHeartbeats 2000000 in
set_option maxRecDepth 100000 in
theorem rsame_any (m : Man) (sv sv' : Value) (w : World) (h : SnapsAt w sv m.snaps) (h' : SnapsAt w sv' m.snaps) (hl : m.snaps.length ≤ 1000000) :
    Calls Try.prog 13 #[m.val sv, m.val sv'] w fun e w' => e = .returned (.bool true) ∧ Below w.heap.size w w' := by
  obtain ⟨v, key, serial, size, bv, bs, l⟩ := m
  simp only [Man.val] at *
  obtain ⟨sa, scap, rfl, hcs⟩ := h
  obtain ⟨ta, tcap, rfl, hct⟩ := h'
  obtain ⟨W0, hW0⟩ : ∃ W0, W0 = (w.alloc (.cells #[.string v, .int .u64 key, .int .i64 serial, .int .i64 size, .string bv, .int .i64 bs, .slice sa l.length scap] 35)).alloc (.cells #[.string v, .int .u64 key, .int .i64 serial, .int .i64 size, .string bv, .int .i64 bs, .slice ta l.length tcap] 35) := ⟨_, rfl⟩
  have hb0 : Below w.heap.size w W0 := by rw [hW0]; exact ((Below.refl _ w).alloc (Nat.le_refl _) _).alloc (by simp) _
  have hA0 : W0.heap[w.heap.size]? = some (.cells #[.string v, .int .u64 key, .int .i64 serial, .int .i64 size, .string bv, .int .i64 bs, .slice sa l.length scap] 35 (0, 0)) := by
    rw [hW0, Below.heap_alloc _ _ _ (by simp)]; exact heap_alloc_new w _
  have hB0 : W0.heap[w.heap.size + 1]? = some (.cells #[.string v, .int .u64 key, .int .i64 serial, .int .i64 size, .string bv, .int .i64 bs, .slice ta l.length tcap] 35 (0, 0)) := by
    rw [hW0]; have := heap_alloc_new (w.alloc (.cells #[.string v, .int .u64 key, .int .i64 serial, .int .i64 size, .string bv, .int .i64 bs, .slice sa l.length scap] 35)) (.cells #[.string v, .int .u64 key, .int .i64 serial, .int .i64 size, .string bv, .int .i64 bs, .slice ta l.length tcap] 35)
    rwa [World.size_alloc] at this
  have HCS := Lib.hid hcs
  have HCT := Lib.hid hct
  have HW0 := Lib.hid hW0
  have HA0 := Lib.hid hA0
  have HB0 := Lib.hid hB0
  have HBW := Lib.hid hb0
  clear hcs hct hW0 hA0 hB0 hb0
  go_enter Try.func13, Try.ntmps13
  go_wp2
  rw [← HW0.out]
  go_loopw [5] (fun i wr => ∃ k : Nat, i = .int .i64 k ∧ k ≤ l.length ∧ Drew W0 wr) (fun i _ => l.length - (intOf i).toNat)
  case atStart => exact ⟨0, rfl, by omega, Drew.refl _⟩
  case round =>
    obtain ⟨k, rfl, hkl, hdr⟩ := hrel
    have hheap : wr.heap = W0.heap := by obtain ⟨mm, rfl⟩ := hdr; rfl
    have hA := HA0.out
    rw [← hheap] at hA
    have hB := HB0.out
    rw [← hheap] at hB
    have hbw : Below w.heap.size w wr := HBW.out.trans ((hdr.keeps (fun _ => False)).below (fun k e => e.elim) HBW.out.size)
    clear hheap
    have kA := cell_of_heap hA 6
    have kB := cell_of_heap hB 6
    simp only [List.getElem?_toArray, List.getElem?_cons_zero, List.getElem?_cons_succ] at kA kB
    by_cases hlt : k < l.length
    · obtain ⟨b, off, rfl, hc0, hc1, hc2⟩ := HCS.out k hlt
      obtain ⟨b', off', rfl, hd0, hd1, hd2⟩ := HCT.out k hlt
      have c0 := (hbw.cell (p := ⟨b, off + k * 3, none⟩) (World.block_lt_of_cell? _ _ hc0)).trans hc0
      have c1 := (hbw.cell (p := ⟨b, off + k * 3 + 1, none⟩) (World.block_lt_of_cell? _ _ hc1)).trans hc1
      have c2 := (hbw.cell (p := ⟨b, off + k * 3 + 2, none⟩) (World.block_lt_of_cell? _ _ hc2)).trans hc2
      have d0 := (hbw.cell (p := ⟨b', off' + k * 3, none⟩) (World.block_lt_of_cell? _ _ hd0)).trans hd0
      have d1 := (hbw.cell (p := ⟨b', off' + k * 3 + 1, none⟩) (World.block_lt_of_cell? _ _ hd1)).trans hd1
      have d2 := (hbw.cell (p := ⟨b', off' + k * 3 + 2, none⟩) (World.block_lt_of_cell? _ _ hd2)).trans hd2
      have hk0 : (0 : Int) ≤ (k : Int) := Int.natCast_nonneg _
      have hk1 : (k : Int) < (l.length : Int) := by omega
      obtain ⟨x, hx⟩ : ∃ x, x = l.getD k Snp.zero := ⟨_, rfl⟩
      rw [← hx] at c0 c1 c2 d0 d1 d2
      clear hc0 hc1 hc2 hd0 hd1 hd2 hx hA hB hbw
      go_wp2_with fail
      go_quiet (fail)
      go_wp2
      go_roundw
      case rel => exact ⟨k + 1, by go_num, by omega, hdr.more nq⟩
      case measure => simp [intOf]; omega
    · obtain rfl : k = l.length := by omega
      clear hA hB
      go_wp2
      go_ret
      exact ⟨rfl, hbw⟩
end Go.Proofs.Ytmkcphelmgkipaa
