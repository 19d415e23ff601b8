import Derived.Test.YtmkcphelmgkipaaT44
set_option linter.unusedVariables false
set_option linter.unusedSimpArgs false
namespace Go.Proofs.Ytmkcphelmgkipaa
open Go.RowKit
attribute [local go_sem ↓] Go.wp_at_zero Go.wp_at_succ

set_option maxHeartbeats 2000000 in
set_option maxRecDepth 100000 in
theorem equal_any (l : List Snp) (sv sv' : Value) (w : World) (h : SnapsAt w sv l) (h' : SnapsAt w sv' l) (hl : l.length ≤ 1000000) :
    Calls Try.prog 46 #[sv, sv'] w fun e w' => e = .returned (.bool true) ∧ Drew w w' := by
  obtain ⟨sa, scap, rfl, hcs⟩ := h
  obtain ⟨ta, tcap, rfl, hct⟩ := h'
  have HCS := Lib.hid hcs
  have HCT := Lib.hid hct
  clear hcs hct
  go_enter Try.func46, Try.ntmps46
  go_wp2
  go_loopw [13] (fun i wr => ∃ k : Nat, i = .int .i64 k ∧ k ≤ l.length ∧ Drew w wr) (fun i _ => l.length - (intOf i).toNat)
  case atStart => exact ⟨0, rfl, by omega, Drew.refl _⟩
  case round =>
    obtain ⟨k, rfl, hkl, hdr⟩ := hrel
    by_cases hlt : k < l.length
    · have hheap : wr.heap = w.heap := by obtain ⟨mm, rfl⟩ := hdr; rfl
      obtain ⟨b, off, rfl, hc0, hc1, hc2⟩ := HCS.out k hlt
      obtain ⟨b', off', rfl, hd0, hd1, hd2⟩ := HCT.out k hlt
      have c0 := (World.cell?_of_block (w := w) (w' := wr) (a := ⟨b, off + k * 3, none⟩) (by rw [hheap])).trans hc0
      have c1 := (World.cell?_of_block (w := w) (w' := wr) (a := ⟨b, off + k * 3 + 1, none⟩) (by rw [hheap])).trans hc1
      have c2 := (World.cell?_of_block (w := w) (w' := wr) (a := ⟨b, off + k * 3 + 2, none⟩) (by rw [hheap])).trans hc2
      have d0 := (World.cell?_of_block (w := w) (w' := wr) (a := ⟨b', off' + k * 3, none⟩) (by rw [hheap])).trans hd0
      have d1 := (World.cell?_of_block (w := w) (w' := wr) (a := ⟨b', off' + k * 3 + 1, none⟩) (by rw [hheap])).trans hd1
      have d2 := (World.cell?_of_block (w := w) (w' := wr) (a := ⟨b', off' + k * 3 + 2, none⟩) (by rw [hheap])).trans hd2
      have hk0 : (0 : Int) ≤ (k : Int) := Int.natCast_nonneg _
      have hk1 : (k : Int) < (l.length : Int) := by omega
      obtain ⟨x, hx⟩ : ∃ x, x = l.getD k Snp.zero := ⟨_, rfl⟩
      rw [← hx] at c0 c1 c2 d0 d1 d2
      clear hc0 hc1 hc2 hd0 hd1 hd2 hx hheap
      go_wp2_with fail
      go_quiet (fail)
      go_wp2
      go_roundw
      case rel => exact ⟨k + 1, by go_num, by omega, hdr.more nq⟩
      case measure => simp [intOf]; omega
    · obtain rfl : k = l.length := by omega
      go_wp2
      go_ret
      exact ⟨rfl, hdr⟩

theorem drew_heap {w w' : World} (h : Drew w w') : w'.heap = w.heap := by obtain ⟨m, rfl⟩ := h; rfl
theorem drew_below {w w' : World} (h : Drew w w') (n : Nat) (hn : n ≤ w.heap.size) : Below n w w' := (h.keeps (fun _ => False)).below (fun k e => e.elim) hn

/-- A manifest that is not too much. -/
structure FewM (m : Man) : Prop where
  len : m.snaps.length ≤ 110
  vol : m.vol.size ≤ 100
  bvol : m.bvol.size ≤ 100
  names : ∀ i, i < m.snaps.length → (m.snaps.getD i Snp.zero).name.size ≤ 100

def FewManPost (m : Man) (w : World) (e : Ending) (w' : World) : Prop := ∃ r, e = .returned (.bool r) ∧ (r = true → FewM m) ∧ Below w.heap.size w w'

set_option maxHeartbeats 2000000 in
set_option maxRecDepth 100000 in
theorem few15_any (m : Man) (sv : Value) (w : World) (h : SnapsAt w sv m.snaps) (hl : m.snaps.length ≤ 9223372036854775807) :
    Calls Try.prog 15 #[m.val sv] w (FewManPost m w) := by
  have HFEW : Hid (m.snaps.length ≤ 110 → m.vol.size ≤ 100 → m.bvol.size ≤ 100 → (∀ i, i < m.snaps.length → (m.snaps.getD i Snp.zero).name.size ≤ 100) → FewM m) := fun a b c d => ⟨a, b, c, d⟩
  obtain ⟨M, hM⟩ : ∃ M, M = m := ⟨_, rfl⟩
  rw [← hM] at HFEW
  have HM := Lib.hid hM
  obtain ⟨v, key, serial, size, bv, bs, l⟩ := m
  have HPO : Hid (∀ e w' r, e = .returned (.bool r) → (r = true → FewM M) → Below w.heap.size w w' → FewManPost ⟨v, key, serial, size, bv, bs, l⟩ w e w') := fun e w' r h1 h2 h3 => ⟨r, h1, fun h => hM ▸ h2 h, h3⟩
  rw [← hM]
  have e1 : M.snaps = l := by rw [hM]
  have e2 : M.vol = v := by rw [hM]
  have e3 : M.bvol = bv := by rw [hM]
  rw [e1, e2, e3] at HFEW
  clear e1 e2 e3
  rw [hM]
  simp only [Man.val] at *
  obtain ⟨sa, scap, rfl, hcs⟩ := h
  have HCS := Lib.hid hcs
  obtain ⟨W0, hW0⟩ : ∃ W0, W0 = w.alloc (.cells #[.string v, .int .u64 key, .int .i64 serial, .int .i64 size, .string bv, .int .i64 bs, .slice sa l.length scap] 29) := ⟨_, rfl⟩
  have hA0 : W0.heap[w.heap.size]? = some (.cells #[.string v, .int .u64 key, .int .i64 serial, .int .i64 size, .string bv, .int .i64 bs, .slice sa l.length scap] 29 (0, 0)) := by rw [hW0]; exact heap_alloc_new w _
  have hb0 : Below w.heap.size w W0 := by rw [hW0]; exact (Below.refl _ w).alloc (Nat.le_refl _) _
  have HW0 := Lib.hid hW0
  have HB0 := Lib.hid hb0
  have k0 := cell_of_heap hA0 0
  have k4 := cell_of_heap hA0 4
  have k6 := cell_of_heap hA0 6
  simp only [List.getElem?_toArray, List.getElem?_cons_zero, List.getElem?_cons_succ] at k0 k4 k6
  clear hcs hW0 hA0 hb0 hM
  go_enter Try.func15, Try.ntmps15
  go_wp2
  rw [← HW0.out]
  go_loopw [3] (fun i wr => ∃ k : Nat, i = .int .i64 k ∧ k ≤ l.length ∧ wr = W0 ∧ Hid (∀ j, j < k → (l.getD j Snp.zero).name.size ≤ 100)) (fun i _ => l.length - (intOf i).toNat)
  case atStart => exact ⟨0, rfl, by omega, rfl, fun j hj => by omega⟩
  case round =>
    obtain ⟨k, rfl, hkl, rfl, hsm⟩ := hrel
    by_cases hlt : k < l.length
    · obtain ⟨b, off, rfl, hc0, _, _⟩ := HCS.out k hlt
      have c0 := (HB0.out.cell (p := ⟨b, off + k * 3, none⟩) (World.block_lt_of_cell? _ _ hc0)).trans hc0
      obtain ⟨x, hx⟩ : ∃ x, x = l.getD k Snp.zero := ⟨_, rfl⟩
      rw [← hx] at c0
      have HX := Lib.hid hx
      clear hc0 hx
      by_cases h1 : x.name.size ≤ 100
      · go_wp2
        go_roundw
        case rel =>
          refine ⟨k + 1, by go_num, by omega, trivial, fun j hj => ?_⟩
          by_cases e : j = k
          · subst e; rw [← HX.out]; exact h1
          · exact hsm.out j (by omega)
        case measure => simp [intOf]; omega
      · go_wp2
        go_ret
        exact HPO.out _ _ false rfl (fun e => by cases e) HB0.out
    · obtain rfl : k = l.length := by omega
      by_cases h1 : l.length ≤ 110
      · by_cases h2 : v.size ≤ 100
        · by_cases h3 : bv.size ≤ 100
          · go_wp2
            go_ret
            exact HPO.out _ _ true (ret_bool (a := decide ((bv.size : Int) ≤ 100)) (decide_eq_true (by omega))) (fun _ => HFEW.out h1 h2 h3 hsm.out) HB0.out
          · go_wp2
            go_ret
            exact HPO.out _ _ false (ret_bool (a := decide ((bv.size : Int) ≤ 100)) (decide_eq_false (by omega))) (fun e => by cases e) HB0.out
        · go_wp2
          go_ret
          exact HPO.out _ _ false rfl (fun e => by cases e) HB0.out
      · go_wp2
        go_ret
        exact HPO.out _ _ false rfl (fun e => by cases e) HB0.out
end Go.Proofs.Ytmkcphelmgkipaa
