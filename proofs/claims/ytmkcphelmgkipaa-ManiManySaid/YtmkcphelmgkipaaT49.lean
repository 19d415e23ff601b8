import Derived.Test.YtmkcphelmgkipaaG5
import Derived.Deep.Cut
set_option linter.unusedVariables false
set_option linter.unusedSimpArgs false
namespace Go.Proofs.Ytmkcphelmgkipaa
open Go.RowKit
attribute [local go_sem ↓] Go.wp_at_zero Go.wp_at_succ

/-! A manifest that is one later; of another size. -/

def Man.up (m : Man) : Man := ⟨m.vol, m.key, m.serial + 1, m.size, m.bvol, m.bseq, m.snaps⟩
def turned (m : Man) : Man × Int := if chk m = 0 then (m, 0) else (Man.zero, chk m)

theorem cells7 {w : World} {b : Nat} {c0 c1 c2 c3 c4 c5 c6 : Value} {t : TypeId} {f : Nat × Nat} (h : w.heap[b]? = some (.cells #[c0, c1, c2, c3, c4, c5, c6] t f)) :
    w.cell? ⟨b, 0, none⟩ = some c0 ∧ w.cell? ⟨b, 1, none⟩ = some c1 ∧ w.cell? ⟨b, 2, none⟩ = some c2 ∧ w.cell? ⟨b, 3, none⟩ = some c3 ∧ w.cell? ⟨b, 4, none⟩ = some c4 ∧ w.cell? ⟨b, 5, none⟩ = some c5 ∧ w.cell? ⟨b, 6, none⟩ = some c6 := by
  simp [World.cell?, h]
theorem cells2 {w : World} {b : Nat} {c0 c1 : Value} {t : TypeId} {f : Nat × Nat} (h : w.heap[b]? = some (.cells #[c0, c1] t f)) :
    w.cell? ⟨b, 0, none⟩ = some c0 ∧ w.cell? ⟨b, 1, none⟩ = some c1 := by
  simp [World.cell?, h]
theorem cells3 {w : World} {b : Nat} {c0 c1 c2 : Value} {t : TypeId} {f : Nat × Nat} (h : w.heap[b]? = some (.cells #[c0, c1, c2] t f)) :
    w.cell? ⟨b, 0, none⟩ = some c0 ∧ w.cell? ⟨b, 1, none⟩ = some c1 ∧ w.cell? ⟨b, 2, none⟩ = some c2 := by
  simp [World.cell?, h]

/-- A block that was there is there later. -/
theorem later {w w' : World} {b : Nat} {x : Obj} (hb : Below w.heap.size w w') (h : w.heap[b]? = some x) : w'.heap[b]? = some x := (hb.block b (World.lt_of_heap h)).trans h
theorem Snaps_later {w w' : World} {sv : Value} {l : List Snp} (hb : Below w.heap.size w w') (h : SnapsAt w sv l) : SnapsAt w' sv l := h.below hb (Nat.le_refl _)
theorem Snaps_same {w w' : World} {sv : Value} {l : List Snp} (h : SnapsAt w sv l) (he : w'.heap = w.heap) : SnapsAt w' sv l := by
  obtain ⟨a, c, e, hc⟩ := h
  refine ⟨a, c, e, fun i hi => ?_⟩
  obtain ⟨b, off, ha, h0, h1, h2⟩ := hc i hi
  exact ⟨b, off, ha, (World.cell?_of_block (w := w) (w' := w') (a := ⟨b, off + i * 3, none⟩) (by rw [he])).trans h0,
    (World.cell?_of_block (w := w) (w' := w') (a := ⟨b, off + i * 3 + 1, none⟩) (by rw [he])).trans h1, (World.cell?_of_block (w := w) (w' := w') (a := ⟨b, off + i * 3 + 2, none⟩) (by rw [he])).trans h2⟩
theorem below_on {w a b : World} (h : Below w.heap.size w a) (k : Below a.heap.size a b) : Below w.heap.size w b := h.trans (k.mono h.size)

theorem below_seven {n : Nat} {w W : World} (h : Below n w W) (b : Nat) (hb : n ≤ b) (v0 v1 v2 v3 v4 v5 v6 : Value) :
    Below n w (((((((W.setCell ⟨b, 0, none⟩ v0).setCell ⟨b, 1, none⟩ v1).setCell ⟨b, 2, none⟩ v2).setCell ⟨b, 3, none⟩ v3).setCell ⟨b, 4, none⟩ v4).setCell ⟨b, 5, none⟩ v5).setCell ⟨b, 6, none⟩ v6) :=
  ((((((h.setCell hb v0).setCell hb v1).setCell hb v2).setCell hb v3).setCell hb v4).setCell hb v5).setCell hb v6

theorem two_new (w : World) (c d : Array Value) (e f : TypeId) :
    ((w.alloc (.cells c e)).alloc (.cells d f)).heap[w.heap.size]? = some (.cells c e (0, 0)) ∧ ((w.alloc (.cells c e)).alloc (.cells d f)).heap[w.heap.size + 1]? = some (.cells d f (0, 0)) ∧
    Below w.heap.size w ((w.alloc (.cells c e)).alloc (.cells d f)) ∧ ((w.alloc (.cells c e)).alloc (.cells d f)).heap.size = w.heap.size + 2 := by
  refine ⟨?_, ?_, ((Below.refl _ w).alloc (Nat.le_refl _) _).alloc (by simp) _, by simp⟩
  · rw [Below.heap_alloc _ _ _ (by simp)]; exact heap_alloc_new w _
  · have := heap_alloc_new (w.alloc (.cells c e)) (.cells d f)
    rwa [World.size_alloc] at this

theorem one_new (w : World) (c : Array Value) (e : TypeId) :
    (w.alloc (.cells c e)).heap[w.heap.size]? = some (.cells c e (0, 0)) ∧ Below w.heap.size w (w.alloc (.cells c e)) ∧ (w.alloc (.cells c e)).heap.size = w.heap.size + 1 :=
  ⟨heap_alloc_new w _, (Below.refl _ w).alloc (Nat.le_refl _) _, by simp⟩

theorem res52 {W : World} {b : Nat} {c : Int} {v0 v1 v2 v3 v4 v5 v6 : Value} {tmps : Array Value} (h : W.heap[b]? = some (.cells #[v0, v1, v2, v3, v4, v5, v6] 29 (0, 0)))
    (h2 : tmps[2]? = some (.pointer (some ⟨b, 0, none⟩))) (h3 : tmps[3]? = some (.int .i64 c)) :
    (results Try.f52 tmps).run Try.prog W = .ok (.tuple #[.agg #[v0, v1, v2, v3, v4, v5, v6], .int .i64 c]) W := by
  obtain ⟨k0, k1, k2, k3, k4, k5, k6⟩ := cells7 h
  simp [results, Try.results52, go_sem, h2, h3, k0, k1, k2, k3, k4, k5, k6]

set_option maxHeartbeats 2000000 in
set_option maxRecDepth 100000 in
theorem next_any (m : Man) (sv : Value) (w : World) (hf : Fits m.up) (hS : SnapsAt w sv m.snaps) (h0 : -9223372036854775808 ≤ m.serial) (h1 : m.serial < 9223372036854775807) :
    Calls Try.prog 52 #[m.val sv] w (ManPost (turned m.up) w) := by
  have HC : Hid (∀ W, SnapsAt W sv m.snaps → Calls Try.prog 33 #[m.up.val sv] W fun e w' => e = .returned (.int .i64 (chk m.up)) ∧ Below W.heap.size W w') := fun W hW => check_any m.up sv W hf hW
  have HP : Hid (∀ e w', (if chk m.up = 0 then ManPost (m.up, 0) w e w' else ManPost (Man.zero, chk m.up) w e w') → ManPost (turned m.up) w e w') := fun e w' h => by
    unfold turned
    split at h
    · rename_i h0; rw [if_pos h0]; exact h
    · rename_i h0; rw [if_neg h0]; exact h
  have HU : Hid (m.up.snaps = m.snaps) := rfl
  generalize chk m.up = c at HC HP
  obtain ⟨R, hR⟩ : ∃ R, R = ManPost (turned m.up) w := ⟨_, rfl⟩
  rw [← hR] at HP ⊢
  clear hR
  obtain ⟨v, key, serial, size, bv, bs, l⟩ := m
  simp only [Man.up, Man.val] at *
  have HSS := Lib.hid hS
  obtain ⟨sa, scap, rfl, _⟩ := hS
  have hS := HSS.out
  obtain ⟨W1, hW1⟩ : ∃ W0, W0 = (w.alloc (.cells #[.string v, .int .u64 key, .int .i64 (serial + 1), .int .i64 size, .string bv, .int .i64 bs, .slice sa l.length scap] 29)).alloc (.cells #[.string ⟨#[]⟩, .int .u64 0, .int .i64 0, .int .i64 0, .string ⟨#[]⟩, .int .i64 0, .slice none 0 0] 29) := ⟨_, rfl⟩
  obtain ⟨hA1, hB1, hb1, hz1⟩ := two_new w #[.string v, .int .u64 key, .int .i64 (serial + 1), .int .i64 size, .string bv, .int .i64 bs, .slice sa l.length scap] #[.string ⟨#[]⟩, .int .u64 0, .int .i64 0, .int .i64 0, .string ⟨#[]⟩, .int .i64 0, .slice none 0 0] 29 29
  rw [← hW1] at hA1 hB1 hb1 hz1
  have hS1 := Snaps_later hb1 hS
  have HW1 := Lib.hid hW1
  have HA1 := Lib.hid hA1
  have HB1 := Lib.hid hB1
  have HBL1 := Lib.hid hb1
  have HS1 := Lib.hid hS1
  have HZ1 := Lib.hid hz1
  clear hA1 hB1 hb1 hS1 hz1 hW1
  go_enter Try.func52, Try.ntmps52
  go_wp2_with fail
  rw [← HW1.out]
  refine (HC.out W1 HS1.out).mono ?_
  rintro e w2 ⟨rfl, hb2⟩
  have hA2 := later hb2 HA1.out
  have hB2 := later hb2 HB1.out
  have hS2 := Snaps_later hb2 HS1.out
  have hbl2 := below_on HBL1.out hb2
  have hz2 := hb2.size
  rw [HZ1.out] at hz2
  obtain ⟨x0, x1, x2, x3, x4, x5, x6⟩ := cells7 hA2
  have fb := frozen_of_heap hB2
  obtain ⟨y0, y1, y2, y3, y4, y5, y6⟩ := cells7 hB2
  have HB2 := Lib.hid hB2
  have HS2 := Lib.hid hS2
  have HBL2 := Lib.hid hbl2
  clear hA2 hB2 hb2 hS2 hbl2
  by_cases hc : c = 0
  · subst hc
    go_wp2
    obtain ⟨g1, g2⟩ := seven HB2.out (.string v) (.int .u64 key) (.int .i64 (serial + 1)) (.int .i64 size) (.string bv) (.int .i64 bs) (.slice sa l.length scap)
    refine leaveB (res52 g1 rfl rfl) (HP.out _ _ ?_)
    rw [if_pos trivial]
    have hb := below_seven HBL2.out (w.heap.size + 1) (by omega) (.string v) (.int .u64 key) (.int .i64 (serial + 1)) (.int .i64 size) (.string bv) (.int .i64 bs) (.slice sa l.length scap)
    exact ⟨_, rfl, Snaps_later hb HSS.out, hb⟩
  · have hcf : (c != 0) = true := by simp [hc]
    go_wp2
    obtain ⟨g1, g2⟩ := seven HB2.out (.string ⟨#[]⟩) (.int .u64 0) (.int .i64 0) (.int .i64 0) (.string ⟨#[]⟩) (.int .i64 0) (.slice none 0 0)
    refine leaveB (res52 g1 rfl rfl) (HP.out _ _ ?_)
    rw [if_neg hc]
    exact ⟨_, rfl, snaps_nil _, below_seven HBL2.out (w.heap.size + 1) (by omega) _ _ _ _ _ _ _⟩
end Go.Proofs.Ytmkcphelmgkipaa
