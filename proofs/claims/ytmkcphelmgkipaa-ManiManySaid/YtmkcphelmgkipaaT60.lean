import Derived.Test.YtmkcphelmgkipaaT58
import Derived.Test.YtmkcphelmgkipaaGrow
import Derived.Deep.AppendLies
set_option linter.unusedVariables false
set_option linter.unusedSimpArgs false
namespace Go.Proofs.Ytmkcphelmgkipaa
open Go.RowKit
attribute [local go_sem ↓] Go.wp_at_zero Go.wp_at_succ

/-! Two slices of snapshots in one. -/

theorem below_drewAlloc (w : World) (o : Obj) : Below w.heap.size w (w.drew.alloc o) := ((Below.refl _ w).drew).alloc (Nat.le_refl _) o

def GrowPost (w : World) (e : Ending) (w' : World) : Prop := ∃ v', e = .returned v' ∧ w'.ownsRow w.heap.size 56 3 v' 0 [] ∧ Below w.heap.size w w'

theorem grow_any (n : Nat) (w : World) (hn : n ≤ 1000000) : Calls Try.prog 81 #[.slice none 0 0, .int .i64 n] w (GrowPost w) := by
  by_cases h0 : n = 0
  · subst h0
    have h := Any8.slices_Grow_room Try.growSnaps none 0 0 0 w (Nat.le_refl _) (by omega) (by omega) (by omega)
    change Calls Try.prog 81 _ _ _ at h
    refine h.mono ?_
    rintro e w' ⟨rfl, rfl⟩
    exact ⟨_, rfl, World.ownsRow_nil _ _ _ _, Below.refl _ _⟩
  · obtain ⟨i0, hi, hy0, hy1, hy2⟩ := info_parts Try.info56x
    have h := Any8.slices_Grow_grow Try.growSnaps i0 _ hi hy0 (by omega) none 0 0 n [] w (Nat.le_refl _) (by omega) (by rw [hy2]; omega) (by omega) (by simp) (fun _ => rfl) (fun a ha => by cases ha)
    change Calls Try.prog 81 _ _ _ at h
    have e25 : Try.growSnaps_ren.t 25 = 56 := rfl
    rw [e25] at h
    refine h.mono ?_
    rintro e w' ⟨rfl, rfl⟩
    refine ⟨_, rfl, ?_, below_drewAlloc w _⟩
    have hG1 : 0 + n ≤ grownCap w (0 + n) 0 56 := grownCap_ge w _ _ _
    have hG2 : grownCap w (0 + n) 0 56 ≤ maxLen := grownCap_le_maxLen w (0 + n) 0 56 (by unfold maxLen; omega)
    refine World.ownsRow_made (base := w.heap.size) (e := 56) (size := 3) w.drew _ _ (Nat.le_refl _) hG2 ?_
    show (_ : Array Value).size = grownCap w (0 + n) 0 56 * 3
    generalize grownCap w (0 + n) 0 56 = G at *
    simp [Builtin.zeroCells, Value.cells]
    omega

def ConcatPost (l : List Snp) (w : World) (e : Ending) (w' : World) : Prop := ∃ v', e = .returned v' ∧ w'.ownsRow w.heap.size 56 3 v' l.length (rowVals l) ∧ Below w.heap.size w w'

set_option maxHeartbeats 4000000 in
set_option maxRecDepth 100000 in
theorem concat_any (a b : List Snp) (ada adb : Addr) (ca cb q : Nat) (w : World) (h0 : w.cell? ⟨q, 0, none⟩ = some (.slice (some ada) a.length ca)) (h1 : w.cell? ⟨q, 1, none⟩ = some (.slice (some adb) b.length cb))
    (hA : ∀ j u, (rowVals a)[j]? = some u → w.cell? (ada.add j) = some u) (hB : ∀ j u, (rowVals b)[j]? = some u → w.cell? (adb.add j) = some u) (ha : a.length ≤ 1000) (hb : b.length ≤ 1000) :
    Calls Try.prog 54 #[.slice (some ⟨q, 0, none⟩) 2 2] w (ConcatPost (a ++ b) w) := by
  have HG : Hid (∀ W (n : Nat), n ≤ 1000000 → Calls Try.prog 81 #[.slice none 0 0, .int .i64 n] W (GrowPost W)) := fun W n hn => grow_any n W hn
  obtain ⟨i0, hi, hy0, hy1, hy2⟩ := info_parts Try.info56x
  have hq := World.block_lt_of_cell? _ _ h0
  have HA := Lib.hid hA
  have HB := Lib.hid hB
  have HPO : Hid (∀ e w' v', e = .returned v' → w'.ownsRow w.heap.size 56 3 v' (a.length + b.length) (rowVals a ++ rowVals b) → Below w.heap.size w w' → ConcatPost (a ++ b) w e w') := fun e w' v' h1 h2 h3 => ⟨v', h1, by rw [List.length_append, rowVals_append]; exact h2, h3⟩
  have HLA := Lib.hid (rowVals_length a)
  have HLB := Lib.hid (rowVals_length b)
  have HOA := Lib.hid (rowVals_one a)
  have HOB := Lib.hid (rowVals_one b)
  obtain ⟨ra, hra⟩ : ∃ r, r = rowVals a := ⟨_, rfl⟩
  obtain ⟨rb, hrb⟩ : ∃ r, r = rowVals b := ⟨_, rfl⟩
  obtain ⟨na, hna⟩ : ∃ n, n = a.length := ⟨_, rfl⟩
  obtain ⟨nb, hnb⟩ : ∃ n, n = b.length := ⟨_, rfl⟩
  obtain ⟨R, hR⟩ : ∃ R, R = ConcatPost (a ++ b) w := ⟨_, rfl⟩
  rw [← hR] at HPO
  rw [← hra] at HA HLA HOA HPO
  rw [← hrb] at HB HLB HOB HPO
  rw [← hna] at HLA HPO h0 ha
  rw [← hnb] at HLB HPO h1 hb
  rw [← hR]
  clear hR hra hrb hna hnb hA hB
  go_enter Try.func54, Try.ntmps54
  go_wp2_with fail
  go_loop [3, 11] (fun t k => ∃ j : Nat, j ≤ 2 ∧ k = .int .i64 j ∧ t = .int .i64 (if j = 0 then 0 else if j = 1 then na else na + nb : Nat)) (fun _ k => 2 - (intOf k).toNat)
  case atStart => exact ⟨0, by omega, rfl, rfl⟩
  case round =>
    obtain ⟨j, hj, rfl, rfl⟩ := hrel
    have h3 : j = 0 ∨ j = 1 ∨ j = 2 := by omega
    rcases h3 with rfl | rfl | rfl
    · go_wp2
      go_round
      case rel => exact ⟨1, by omega, rfl, rfl⟩
      case measure => simp [intOf]
    · go_wp2
      go_round
      case rel => exact ⟨2, by omega, rfl, by simp⟩
      case measure => simp [intOf]
    · have HGR := Lib.hid (HG.out w (na + nb) (by omega))
      have e0 : (((na + nb : Nat) : Int)) = (na : Int) + (nb : Int) := by omega
      rw [e0] at HGR
      clear e0
      go_wp2_with fail
      refine HGR.out.mono ?_
      rintro e w1 ⟨v1, rfl, hown, hb1⟩
      have h01 := (hb1.cell (p := ⟨q, 0, none⟩) hq).trans h0
      have h11 := (hb1.cell (p := ⟨q, 1, none⟩) hq).trans h1
      have HO1 := Lib.hid hown
      have HB1 := Lib.hid hb1
      clear hown hb1
      go_wp2_with fail
      go_loopw [6, 27] (fun t k wr => ∃ (j : Nat), j ≤ 2 ∧ k = .int .i64 j ∧ Hid (wr.ownsRow w.heap.size 56 3 t (if j = 0 then 0 else if j = 1 then na else na + nb) (if j = 0 then [] else if j = 1 then ra else ra ++ rb)) ∧ Hid (Below w.heap.size w wr)) (fun _ k _ => 2 - (intOf k).toNat)
      case atStart => exact ⟨0, by omega, rfl, HO1, HB1⟩
      case round =>
        clear h01 h11
        obtain ⟨j, hj, rfl, HOr, HBr⟩ := hrel
        have h01 := (HBr.out.cell (p := ⟨q, 0, none⟩) hq).trans h0
        have h11 := (HBr.out.cell (p := ⟨q, 1, none⟩) hq).trans h1
        have hzr := HBr.out.size
        have h3 : j = 0 ∨ j = 1 ∨ j = 2 := by omega
        rcases h3 with rfl | rfl | rfl
        · have HOz : Hid (wr.ownsRow w.heap.size 56 3 u6 0 []) := HOr.out
          obtain ⟨xa, xc, rfl⟩ := owns_slice HOz.out
          have HN : Hid (∀ j u, ra[j]? = some u → wr.cell? (ada.add j) = some u) := fun j u h => by
            have h' := HA.out j u h
            exact (HBr.out.cell (p := ada.add j) (World.block_lt_of_cell? _ _ h')).trans h'
          go_wp2_with (at_builtin; refine wpList_append_own _ rfl _ _ 27 rfl w.heap.size 56 i0 _ 3 32 Try.underlying27 hi hy0 hy1 hy2 rfl (by omega) _ _ _ rfl HOz.out ada na ca ra rfl HLA.out HN.out HOA.out (by unfold maxLen; omega) (by omega) (by omega) ?_; intro v7 w7 hown7 hgrow _; have HO7 := Lib.hid hown7; have HG7 := Lib.hid hgrow; clear hown7 hgrow)
          have hO8 : w7.ownsRow w.heap.size 56 3 v7 na ra := by simpa using HO7.out
          have hB8 : Below w.heap.size w w7 := HBr.out.grown HG7.out HBr.out.size (fun k hk => (HOz.out.lt k hk).1)
          have QO := Lib.hid hO8
          have QB := Lib.hid hB8
          clear hO8 hB8
          go_roundw
          case rel => exact ⟨1, by omega, rfl, QO, QB⟩
          case measure => simp [intOf]
        · have HOz : Hid (wr.ownsRow w.heap.size 56 3 u6 na ra) := HOr.out
          obtain ⟨xa, xc, rfl⟩ := owns_slice HOz.out
          have HN : Hid (∀ j u, rb[j]? = some u → wr.cell? (adb.add j) = some u) := fun j u h => by
            have h' := HB.out j u h
            exact (HBr.out.cell (p := adb.add j) (World.block_lt_of_cell? _ _ h')).trans h'
          go_wp2_with (at_builtin; refine wpList_append_own _ rfl _ _ 27 rfl w.heap.size 56 i0 _ 3 32 Try.underlying27 hi hy0 hy1 hy2 rfl (by omega) _ _ _ rfl HOz.out adb nb cb rb rfl HLB.out HN.out HOB.out (by unfold maxLen; omega) (by omega) (by omega) ?_; intro v7 w7 hown7 hgrow _; have HO7 := Lib.hid hown7; have HG7 := Lib.hid hgrow; clear hown7 hgrow)
          have hB8 : Below w.heap.size w w7 := HBr.out.grown HG7.out HBr.out.size (fun k hk => (HOz.out.lt k hk).1)
          have QB := Lib.hid hB8
          clear hB8
          go_roundw
          case rel => exact ⟨2, by omega, rfl, HO7, QB⟩
          case measure => simp [intOf]
        · have HOz : Hid (wr.ownsRow w.heap.size 56 3 u6 (na + nb) (ra ++ rb)) := HOr.out
          obtain ⟨xa, xc, rfl⟩ := owns_slice HOz.out
          go_wp2
          exact HPO.out _ _ _ rfl HOz.out HBr.out
end Go.Proofs.Ytmkcphelmgkipaa
