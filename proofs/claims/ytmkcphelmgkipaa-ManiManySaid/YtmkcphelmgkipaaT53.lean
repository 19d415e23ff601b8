import Derived.Test.YtmkcphelmgkipaaT49
import Derived.Test.YtmkcphelmgkipaaT34
import Derived.Outline
set_option linter.unusedVariables false
set_option linter.unusedSimpArgs false
namespace Go.Proofs.Ytmkcphelmgkipaa
open Go.RowKit
attribute [local go_sem ↓] Go.wp_at_zero Go.wp_at_succ

/-! Where a snapshot is. -/

def isN (name : ByteArray) (x : Snp) : Bool := x.name.toList == name.toList
def fnd (l : List Snp) (name : ByteArray) : Option Nat := l.findIdx? (isN name)
def fndI (l : List Snp) (name : ByteArray) : Int := match fnd l name with | some i => i | none => -1

theorem fnd_at {l : List Snp} {name : ByteArray} {k : Nat} (hk : k < l.length) (h0 : ∀ j, j < k → isN name (l.getD j Snp.zero) = false) (h1 : isN name (l.getD k Snp.zero) = true) : fndI l name = k := by
  have e : fnd l name = some k := by
    unfold fnd
    rw [List.findIdx?_eq_some_iff_getElem]
    refine ⟨hk, ?_, fun j hj => ?_⟩
    · rw [List.getD_eq_getElem?_getD, List.getElem?_eq_getElem hk] at h1; exact h1
    · have := h0 j hj
      rw [List.getD_eq_getElem?_getD, List.getElem?_eq_getElem (by omega)] at this
      simpa using this
  unfold fndI
  rw [e]

theorem fnd_no {l : List Snp} {name : ByteArray} (h0 : ∀ j, j < l.length → isN name (l.getD j Snp.zero) = false) : fndI l name = -1 := by
  have e : fnd l name = none := by
    unfold fnd
    rw [List.findIdx?_eq_none_iff]
    intro x hx
    obtain ⟨i, hi, rfl⟩ := List.mem_iff_getElem.1 hx
    have := h0 i hi
    rwa [List.getD_eq_getElem?_getD, List.getElem?_eq_getElem hi] at this
  unfold fndI
  rw [e]

set_option maxHeartbeats 1000000 in
set_option maxRecDepth 100000 in
theorem closure77 (x : Snp) (name : ByteArray) (c : Nat) (W : World) (hc : W.cell? ⟨c, 0, none⟩ = some (.string name)) :
    Calls Try.prog 77 #[.agg #[.string x.name, .int .i64 x.seq, .int .i64 x.upto], .pointer (some ⟨c, 0, none⟩)] W fun e w' => e = .returned (.bool (isN name x)) ∧ Below W.heap.size W w' := by
  have hlt := World.block_lt_of_cell? _ _ hc
  have hc' : (W.alloc (.cells #[.string x.name, .int .i64 x.seq, .int .i64 x.upto] 56)).cell? ⟨c, 0, none⟩ = some (.string name) :=
    (World.cell?_of_block (w := W) (a := ⟨c, 0, none⟩) (Below.heap_alloc W _ _ hlt)).trans hc
  go_enter Try.func77, Try.ntmps77
  go_wp2
  go_ret
  exact ⟨rfl, (Below.refl _ W).alloc (Nat.le_refl _) _⟩

set_option maxHeartbeats 2000000 in
set_option maxRecDepth 100000 in
theorem indexf_any (l : List Snp) (sv : Value) (c : Nat) (name : ByteArray) (w : World) (hS : SnapsAt w sv l) (hc : w.cell? ⟨c, 0, none⟩ = some (.string name)) (hl : l.length ≤ 1000000) :
    Calls Try.prog 76 #[sv, .func (.func 77) #[] #[.pointer (some ⟨c, 0, none⟩)]] w fun e w' => e = .returned (.int .i64 (fndI l name)) ∧ Below w.heap.size w w' := by
  have HF : Hid (∀ k, k < l.length → (∀ j, j < k → isN name (l.getD j Snp.zero) = false) → isN name (l.getD k Snp.zero) = true → fndI l name = k) := fun k hk h0 h1 => fnd_at hk h0 h1
  have HN : Hid ((∀ j, j < l.length → isN name (l.getD j Snp.zero) = false) → fndI l name = -1) := fun h => fnd_no h
  generalize fndI l name = r at *
  have hlt := World.block_lt_of_cell? _ _ hc
  have HCL : Hid (∀ (x : Snp) (W : World), Below w.heap.size w W → Calls Try.prog 77 #[.agg #[.string x.name, .int .i64 x.seq, .int .i64 x.upto], .pointer (some ⟨c, 0, none⟩)] W fun e w' => e = .returned (.bool (isN name x)) ∧ Below W.heap.size W w') :=
    fun x W hb => closure77 x name c W ((hb.cell (p := ⟨c, 0, none⟩) hlt).trans hc)
  obtain ⟨a, cap, rfl, hcs⟩ := hS
  have HCS := Lib.hid hcs
  clear hcs hc hlt
  go_enter Try.func76, Try.ntmps76
  go_wp2
  go_loopw [5, 8] (fun u i wr => ∃ k : Nat, i = .int .i64 k ∧ k ≤ l.length ∧ Below w.heap.size w wr ∧ Hid (∀ j, j < k → isN name (l.getD j Snp.zero) = false)) (fun _ i _ => l.length - (intOf i).toNat)
  case atStart => exact ⟨0, rfl, by omega, Below.refl _ _, fun j hj => by omega⟩
  case round =>
    obtain ⟨k, rfl, hkl, hbr, hno⟩ := hrel
    by_cases hlt : k < l.length
    · obtain ⟨b, off, rfl, hc0, hc1, hc2⟩ := HCS.out k hlt
      have c0 := (hbr.cell (p := ⟨b, off + k * 3, none⟩) (World.block_lt_of_cell? _ _ hc0)).trans hc0
      have c1 := (hbr.cell (p := ⟨b, off + k * 3 + 1, none⟩) (World.block_lt_of_cell? _ _ hc1)).trans hc1
      have c2 := (hbr.cell (p := ⟨b, off + k * 3 + 2, none⟩) (World.block_lt_of_cell? _ _ hc2)).trans hc2
      have hk0 : (0 : Int) ≤ (k : Int) := Int.natCast_nonneg _
      have hk1 : (k : Int) < (l.length : Int) := by omega
      obtain ⟨x, hx⟩ : ∃ x, x = l.getD k Snp.zero := ⟨_, rfl⟩
      rw [← hx] at c0 c1 c2
      have HX := Lib.hid hx
      have HBR := Lib.hid hbr
      obtain ⟨t, ht⟩ : ∃ t, t = isN name x := ⟨_, rfl⟩
      have HCX := HCL.out x wr hbr
      rw [← ht] at HCX
      have HCX := Lib.hid HCX
      have HT := Lib.hid ht
      clear hc0 hc1 hc2 hx hbr ht
      go_wp2_with fail
      refine HCX.out.mono ?_
      rintro e w1 ⟨rfl, hb1⟩
      have HB1 := Lib.hid (below_on HBR.out hb1)
      clear hb1
      cases t with
      | true =>
        go_wp2
        go_ret
        exact ⟨ret_int (HF.out k hlt hno.out (by rw [← HX.out, ← HT.out])).symm, HB1.out⟩
      | false =>
        go_wp2
        go_roundw
        case rel =>
          refine ⟨k + 1, by go_num, by omega, HB1.out, fun j hj => ?_⟩
          by_cases e : j = k
          · subst e; rw [← HX.out, ← HT.out]
          · exact hno.out j (by omega)
        case measure => simp [intOf]; omega
    · obtain rfl : k = l.length := by omega
      go_wp2
      go_ret
      exact ⟨ret_int (HN.out hno.out).symm, hbr⟩

set_option maxHeartbeats 1000000 in
set_option maxRecDepth 100000 in
theorem place_any (l : List Snp) (sv : Value) (name : ByteArray) (w : World) (hS : SnapsAt w sv l) (hl : l.length ≤ 1000000) :
    Calls Try.prog 48 #[sv, .string name] w fun e w' => e = .returned (.tuple #[.int .i64 (fndI l name), .bool (decide (0 ≤ fndI l name))]) ∧ Below w.heap.size w w' := by
  have hb1 : Below w.heap.size w (w.alloc (.cells #[.string name] 9)) := (Below.refl _ w).alloc (Nat.le_refl _) _
  have HI := indexf_any l sv w.heap.size name (w.alloc (.cells #[.string name] 9)) (Snaps_later hb1 hS) (by simp) hl
  generalize fndI l name = r at *
  have HI := Lib.hid HI
  have HB := Lib.hid hb1
  clear hb1
  obtain ⟨a, cap, rfl, _⟩ := hS
  by_cases h0 : 0 ≤ r
  · go_enter Try.func48, Try.ntmps48
    go_wp2_with fail
    refine HI.out.mono ?_
    rintro e w1 ⟨rfl, hb1⟩
    go_wp2
    go_ret2
    exact ⟨by rw [decide_eq_true h0]; rfl, below_on HB.out hb1⟩
  · go_enter Try.func48, Try.ntmps48
    go_wp2_with fail
    refine HI.out.mono ?_
    rintro e w1 ⟨rfl, hb1⟩
    go_wp2
    go_ret2
    exact ⟨rfl, below_on HB.out hb1⟩
end Go.Proofs.Ytmkcphelmgkipaa
