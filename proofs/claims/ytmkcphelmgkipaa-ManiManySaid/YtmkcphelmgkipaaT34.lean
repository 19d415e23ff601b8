import Derived.Test.YtmkcphelmgkipaaG5
import Derived.Deep.RegionHeld3
import Derived.Deep.AppendLies
set_option linter.unusedVariables false
set_option linter.unusedSimpArgs false
namespace Go.Proofs.Ytmkcphelmgkipaa
open Go.RowKit
attribute [local go_sem ↓] Go.wp_at_zero Go.wp_at_succ

theorem rowVals_take (l : List Snp) (k : Nat) (h : k < l.length) : rowVals (l.take (k + 1)) = rowVals (l.take k) ++ snapVals (l.getD k Snp.zero) := by
  rw [List.take_add_one, rowVals_append, List.getElem?_eq_getElem h, List.getD_eq_getElem?_getD, List.getElem?_eq_getElem h]
  simp [rowVals]

set_option maxHeartbeats 2000000 in
set_option maxRecDepth 100000 in
theorem snaps_any (sv : Value) (l : List Snp) (w : World) (h : SnapsAt w sv l) (hl : l.length ≤ 1000000) :
    Calls Try.prog 21 #[sv] w fun e w' => ∃ sv', e = .returned sv' ∧ w'.ownsRow w.heap.size 81 3 sv' l.length (rowVals l) ∧ Below w.heap.size w w' := by
  obtain ⟨a, cap, rfl, hcs⟩ := h
  have HCS := Lib.hid hcs
  clear hcs
  obtain ⟨i0, hi, hy0, hy1, hy2⟩ := info_parts Try.info81
  go_enter Try.func21, Try.ntmps21
  go_wp2
  go_loopw [3, 4] (fun v i wr => ∃ k : Nat, i = .int .i64 k ∧ k ≤ l.length ∧ wr.ownsRow w.heap.size 81 3 v k (rowVals (l.take k)) ∧ Below w.heap.size w wr) (fun _ i _ => l.length - (intOf i).toNat)
  case atStart => exact ⟨0, rfl, by omega, World.ownsRow_nil _ _ _ _, Below.refl _ _⟩
  case round =>
    obtain ⟨k, rfl, hkl, hown, hbr⟩ := hrel
    by_cases hlt : k < l.length
    · obtain ⟨b, off, rfl, hc0, hc1, hc2⟩ := HCS.out k hlt
      have hbw := World.block_lt_of_cell? _ _ hc0
      have d0 := (hbr.cell (p := ⟨b, off + k * 3, none⟩) hbw).trans hc0
      have d1 := (hbr.cell (p := ⟨b, off + k * 3 + 1, none⟩) hbw).trans hc1
      have d2 := (hbr.cell (p := ⟨b, off + k * 3 + 2, none⟩) hbw).trans hc2
      have HT := Lib.hid (rowVals_take l k hlt)
      obtain ⟨x, hx⟩ : ∃ x, x = l.getD k Snp.zero := ⟨_, rfl⟩
      rw [← hx] at d0 d1 d2 HT
      have hsz := hbr.size
      have hbw' : b < w.heap.size := hbw
      have hk0 : (0 : Int) ≤ (k : Int) := Int.natCast_nonneg _
      have hk1 : (k : Int) < (l.length : Int) := by omega
      generalize hrow : rowVals (l.take k) = row at *
      clear hx hc0 hc1 hc2 hrow
      go_wp2_with fail
      have ab : u3.ownBlock ≠ some b := fun e => by have := (hown.lt b e).1; omega
      have hmx : k + 1 ≤ maxLen := by simp [maxLen]; omega
      have HMX := Lib.hid hmx
      have HOWN := Lib.hid hown
      have HBR := Lib.hid hbr
      clear hmx hown hbr
      go_region_held3 (fun w' => w'.cell? ⟨b, off + k * 3, none⟩ = some (.string x.name) ∧ w'.cell? ⟨b, off + k * 3 + 1, none⟩ = some (.int .i64 x.seq) ∧ w'.cell? ⟨b, off + k * 3 + 2, none⟩ = some (.int .i64 x.upto))
        (first
          | go_keep
          | (go_split_ands
             refine ⟨?_, ?_, ?_⟩
             · (rw [hgrow.cell_far _ (by simp; omega) (Ne.symm ab)]; assumption)
             · (rw [hgrow.cell_far _ (by simp; omega) (Ne.symm ab)]; assumption)
             · (rw [hgrow.cell_far _ (by simp; omega) (Ne.symm ab)]; assumption)))
        ((refine step_append_lies _ (by rfl) _ _ _ (by rfl) w.heap.size 81 i0 _ 3 32 Try.underlying33 hi hy0 hy1 hy2 rfl (by omega) u3 k row (by rfl) ((HOWN.out.alloc _).drew)
            ⟨wr.heap.size, 0, none⟩ 1 1 [.string x.name, .int .i64 x.seq, .int .i64 x.upto] (by rfl) (by rfl) (World.news_of_block (cs := #[.string x.name, .int .i64 x.seq, .int .i64 x.upto]) (t := 81) (fr := (0, 0)) (heap_alloc_new wr _)) (by simp [Value.oneCell'])
            (by omega) HMX.out (by omega) (by simp; omega) (wr.heap.size + 1) (by simp) ?_; intro gg cap' w1 hown1 hgrow hat hlt1))
      have hb1 : Below w.heap.size w w1 := by
        have hbr := HBR.out
        have hz := hgrow.size
        exact ⟨hgrow.os.trans hbr.os, hgrow.tape.trans hbr.tape, hgrow.output.trans hbr.output, by simp at hz; omega, fun j hj => by
          rw [hgrow.block j (by simp; omega) (fun e => by have := (HOWN.out.lt j e.symm).1; omega)]
          exact (Below.heap_alloc wr _ j (by omega)).trans (hbr.block j hj)⟩
      have HO1 := Lib.hid hown1
      clear hown1 hgrow hat
      go_wp2
      go_roundw
      case rel => exact ⟨k + 1, by go_num, by omega, by rw [HT.out]; exact HO1.out, hb1⟩
      case measure => simp [intOf]; omega
    · obtain rfl : k = l.length := by omega
      rw [List.take_length] at hown
      obtain ⟨va, vc, rfl⟩ := owns_slice hown
      have HS := Lib.hid hown
      clear hown
      go_wp2
      go_ret
      exact ⟨_, rfl, HS.out, hbr⟩
end Go.Proofs.Ytmkcphelmgkipaa
