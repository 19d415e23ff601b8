import Derived.Test.YtmkcphelmgkipaaT39
set_option linter.unusedVariables false
set_option linter.unusedSimpArgs false
namespace Go.Proofs.Ytmkcphelmgkipaa
open Go.RowKit
attribute [local go_sem ↓] Go.wp_at_zero Go.wp_at_succ

set_option maxHeartbeats 4000000 in
set_option maxRecDepth 100000 in
theorem rpick_any (sv : Value) (ss : List ByteArray) (w : World) (h : StrsAt w sv ss) (hn : ss.length ≤ 1000) (hz : ∀ s ∈ ss, s.size ≤ 1000000) :
    Calls Try.prog 12 #[sv] w fun e w' => ∃ su, e = .returned (rpickVal (pks ss ss.length) su) ∧ SnapsAt w' su (pks ss ss.length).1.snaps ∧ Below w.heap.size w w' := by
  obtain ⟨a, cap, rfl, hcs⟩ := h
  have HCS := Lib.hid hcs
  have HDEC : Hid (∀ (s : ByteArray) (W : World), s ∈ ss → ∀ m c, dman s.data.toList = (m, c) → Calls Try.prog 9 #[.string s] W (ManPost (m, c) W)) := fun s W hs m c hd => by
    have := rdecode_any s W (by have := hz s hs; omega)
    rw [qdman_dman] at this
    rw [hd] at this
    exact this
  clear hcs
  obtain ⟨W0, hW0⟩ : ∃ W0, W0 = (w.alloc (.cells #[.string ⟨#[]⟩, .int .u64 0, .int .i64 0, .int .i64 0, .string ⟨#[]⟩, .int .i64 0, .slice none 0 0] 35)).alloc (.cells #[.string ⟨#[]⟩, .int .u64 0, .int .i64 0, .int .i64 0, .string ⟨#[]⟩, .int .i64 0, .slice none 0 0] 35) := ⟨_, rfl⟩
  have hb0 : Below w.heap.size w W0 := by rw [hW0]; exact ((Below.refl _ w).alloc (Nat.le_refl _) _).alloc (by simp) _
  have hz0 : W0.heap.size = w.heap.size + 2 := by rw [hW0]; simp
  have hA0 : W0.heap[w.heap.size]? = some (.cells #[.string ⟨#[]⟩, .int .u64 0, .int .i64 0, .int .i64 0, .string ⟨#[]⟩, .int .i64 0, .slice none 0 0] 35 (0, 0)) := by
    rw [hW0, Below.heap_alloc _ _ _ (by simp)]; exact heap_alloc_new w _
  have hB0 : W0.heap[w.heap.size + 1]? = some (.cells #[.string ⟨#[]⟩, .int .u64 0, .int .i64 0, .int .i64 0, .string ⟨#[]⟩, .int .i64 0, .slice none 0 0] 35 (0, 0)) := by
    rw [hW0]; have := heap_alloc_new (w.alloc (.cells #[.string ⟨#[]⟩, .int .u64 0, .int .i64 0, .int .i64 0, .string ⟨#[]⟩, .int .i64 0, .slice none 0 0] 35)) (.cells #[.string ⟨#[]⟩, .int .u64 0, .int .i64 0, .int .i64 0, .string ⟨#[]⟩, .int .i64 0, .slice none 0 0] 35)
    rwa [World.size_alloc] at this
  have HW0 := Lib.hid hW0
  clear hW0
  go_enter Try.func12, Try.ntmps12
  go_wp2
  rw [← HW0.out]
  obtain ⟨D, hD⟩ : ∃ D, D = w.heap.size + 1 := ⟨_, rfl⟩
  obtain ⟨B, hB⟩ : ∃ B, B = w.heap.size := ⟨_, rfl⟩
  have hBD : B < D := by omega
  have hwB : w.heap.size ≤ B := by omega
  have hDz : D < W0.heap.size := by omega
  rw [← hD, ← hB]
  rw [← hD] at hB0
  rw [← hB] at hA0
  have HBB := Lib.hid hB
  clear hD hB hz0
  go_loopw [4, 6] (fun at' i wr => ∃ (k : Nat) (bv : ByteArray) (bk bser bsz : Int) (bb : ByteArray) (bq : Int) (bl : List Snp) (ba : Option Addr) (bc : Nat) (p : Option Nat), i = .int .i64 k ∧ k ≤ ss.length ∧
    Hid (pks ss k = (⟨bv, bk, bser, bsz, bb, bq, bl⟩, p)) ∧ at' = .int .i64 (atOf p) ∧
    wr.heap[B]? = some (.cells #[.string ⟨#[]⟩, .int .u64 0, .int .i64 0, .int .i64 0, .string ⟨#[]⟩, .int .i64 0, .slice none 0 0] 35 (0, 0)) ∧ wr.heap[D]? = some (.cells #[.string bv, .int .u64 bk, .int .i64 bser, .int .i64 bsz, .string bb, .int .i64 bq, .slice ba bl.length bc] 35 (0, 0)) ∧ SnapsAt wr (.slice ba bl.length bc) bl ∧ Below w.heap.size w wr ∧ D < wr.heap.size) (fun _ i _ => ss.length - (intOf i).toNat)
  case atStart => exact ⟨0, ⟨#[]⟩, 0, 0, 0, ⟨#[]⟩, 0, [], none, 0, none, rfl, by omega, rfl, rfl, hA0, hB0, snaps_nil _, hb0, hDz⟩
  case round =>
    clear hA0 hB0 hb0 hDz
    obtain ⟨k, bv, bk, bser, bsz, bb, bq, bl, ba, bc, p, rfl, hkn, hpk, rfl, hA, hB, hS, hbr, hDr⟩ := hrel
    by_cases hlt : k < ss.length
    · obtain ⟨b, off, hab, hc0⟩ := HCS.out k hlt
      have c0 := (hbr.cell (p := ⟨b, off + k, none⟩) (World.block_lt_of_cell? _ _ hc0)).trans hc0
      subst hab
      obtain ⟨x, hx⟩ : ∃ x, x = ss.getD k ⟨#[]⟩ := ⟨_, rfl⟩
      have hxm : x ∈ ss := by
        rw [hx, List.getD_eq_getElem?_getD, List.getElem?_eq_getElem hlt]; exact List.getElem_mem hlt
      have hstep := pks_step ss k
      rw [← hx] at hstep c0
      rw [hpk.out] at hstep
      cases hdm : dman x.data.toList with
      | mk m c =>
        obtain ⟨mv, mk, mser, msz, mb, mq, ml⟩ := m
        rw [hdm] at hstep
        have HST := Lib.hid hstep
        have HD1 := Lib.hid (HDEC.out x wr hxm _ c hdm)
        have HA := Lib.hid hA
        have HB := Lib.hid hB
        have HS := Lib.hid hS
        clear hstep hx hxm hdm hc0 hA hB hS
        go_wp2_with fail
        refine HD1.out.mono ?_
        rintro e w1 ⟨sm, rfl, hSm, hb1⟩
        obtain ⟨ma, mc, rfl, hms⟩ := hSm
        simp only [Man.val]
        have hSm : SnapsAt w1 (.slice ma ml.length mc) ml := ⟨ma, mc, rfl, hms⟩
        have hz1 := hb1.size
        have hA1 := (hb1.block B (by omega)).trans HA.out
        have hB1 := (hb1.block D (by omega)).trans HB.out
        have hS1 := HS.out.below hb1 (Nat.le_refl _)
        obtain ⟨X, hX⟩ : ∃ X, X = w1.heap.size := ⟨_, rfl⟩
        obtain ⟨w2, hw2⟩ : ∃ w2, w2 = w1.alloc (.cells #[.string mv, .int .u64 mk, .int .i64 mser, .int .i64 msz, .string mb, .int .i64 mq, .slice ma ml.length mc] 35) := ⟨_, rfl⟩
        have hXx : w2.heap[X]? = some (.cells #[.string mv, .int .u64 mk, .int .i64 mser, .int .i64 msz, .string mb, .int .i64 mq, .slice ma ml.length mc] 35 (0, 0)) := by rw [hw2, hX]; exact heap_alloc_new w1 _
        have hb2 : Below w1.heap.size w1 w2 := by rw [hw2]; exact (Below.refl _ w1).alloc (Nat.le_refl _) _
        have hz2 : w2.heap.size = X + 1 := by rw [hw2, hX]; simp
        have hA2 := (hb2.block B (by omega)).trans hA1
        have hB2 := (hb2.block D (by omega)).trans hB1
        have hS2 := hS1.below hb2 (Nat.le_refl _)
        have hSm2 := hSm.below hb2 (Nat.le_refl _)
        have hbw2 : Below w.heap.size w w2 := (hbr.trans (hb1.mono (by have := hbr.size; omega))).trans (hb2.mono (by have := hbr.size; omega))
        have hDX : D < X := by omega
        have HX := Lib.hid hX
        have HW2 := Lib.hid hw2
        have u0 : w2.cell? ⟨X, 2, none⟩ = some (.int .i64 mser) := cell_of_heap hXx 2
        have u1 : w2.cell? ⟨D, 2, none⟩ = some (.int .i64 bser) := cell_of_heap hB2 2
        clear hX hw2 hb1 hb2 hA1 hB1 hS1 hSm hms hz1
        rw [HW2.out, HX.out] at u0
        rw [HW2.out] at u1
        by_cases hcase : c = 0 ∧ (p = none ∨ bser < mser)
        · obtain ⟨rfl, hcase⟩ := hcase
          have hstep := HST.out
          have hpk1 : Hid (pks ss (k + 1) = (⟨mv, mk, mser, msz, mb, mq, ml⟩, some k)) := by
            show _ = _
            rw [hstep]; exact if_pos ⟨rfl, hcase⟩
          have x0 := cell_of_heap hXx 0
          have x1 := cell_of_heap hXx 1
          have x2 := cell_of_heap hXx 2
          have x3 := cell_of_heap hXx 3
          have x4 := cell_of_heap hXx 4
          have x5 := cell_of_heap hXx 5
          have x6 := cell_of_heap hXx 6
          have d0 := cell_of_heap hB2 0
          have d1 := cell_of_heap hB2 1
          have d2 := cell_of_heap hB2 2
          have d3 := cell_of_heap hB2 3
          have d4 := cell_of_heap hB2 4
          have d5 := cell_of_heap hB2 5
          have d6 := cell_of_heap hB2 6
          have f := frozen_of_heap hB2
          simp only [List.getElem?_toArray, List.getElem?_cons_zero, List.getElem?_cons_succ] at x0 x1 x2 x3 x4 x5 x6 d0 d1 d2 d3 d4 d5 d6
          have G : Hid ((DW w2 D mv mk mser msz mb mq ma ml mc).heap[B]? = some (.cells #[.string ⟨#[]⟩, .int .u64 0, .int .i64 0, .int .i64 0, .string ⟨#[]⟩, .int .i64 0, .slice none 0 0] 35 (0, 0)) ∧ (DW w2 D mv mk mser msz mb mq ma ml mc).heap[D]? = some (.cells #[.string mv, .int .u64 mk, .int .i64 mser, .int .i64 msz, .string mb, .int .i64 mq, .slice ma ml.length mc] 35 (0, 0)) ∧ SnapsAt (DW w2 D mv mk mser msz mb mq ma ml mc) (.slice ma ml.length mc) ml ∧ Below w.heap.size w (DW w2 D mv mk mser msz mb mq ma ml mc) ∧ D < (DW w2 D mv mk mser msz mb mq ma ml mc).heap.size) := by
            obtain ⟨g1, g2⟩ := seven hB2 (.string mv) (.int .u64 mk) (.int .i64 mser) (.int .i64 msz) (.string mb) (.int .i64 mq) (.slice ma ml.length mc)
            refine ⟨(g2.block B (by omega) (by omega)).trans hA2, g1, snaps_apart hSm2 hB2 g2, hbw2.trans (g2.below (fun j e => by omega) (by have := hbw2.size; omega)), ?_⟩
            exact Nat.lt_of_lt_of_le (show D < w2.heap.size by omega) g2.size
          clear hA2 hB2 hS2 hSm2 hbw2 hXx hstep
          go_upto_region 7 with (fail)
          rw [← HW2.out, ← HX.out]
          rw [← HW2.out, ← HX.out] at u0
          rw [← HW2.out] at u1
          cases p with
          | none =>
            simp only [errOf, atOf]
            go_wp2
            go_roundw
            case rel => exact ⟨k + 1, mv, mk, mser, msz, mb, mq, ml, ma, mc, some k, by go_num, by omega, hpk1, rfl, G.out.1, G.out.2.1, G.out.2.2.1, G.out.2.2.2.1, G.out.2.2.2.2⟩
            case measure => simp [intOf]; omega
          | some p0 =>
            have hser : bser < mser := by
              rcases hcase with e | e
              · cases e
              · exact e
            simp only [errOf, atOf]
            go_wp2
            go_roundw
            case rel => exact ⟨k + 1, mv, mk, mser, msz, mb, mq, ml, ma, mc, some k, by go_num, by omega, hpk1, rfl, G.out.1, G.out.2.1, G.out.2.2.1, G.out.2.2.2.1, G.out.2.2.2.2⟩
            case measure => simp [intOf]; omega
        · have hpk1 : Hid (pks ss (k + 1) = (⟨bv, bk, bser, bsz, bb, bq, bl⟩, p)) := by
            show _ = _
            rw [HST.out]; exact if_neg hcase
          have x0 := cell_of_heap hXx 0
          have x1 := cell_of_heap hXx 1
          have x2 := cell_of_heap hXx 2
          have x3 := cell_of_heap hXx 3
          have x4 := cell_of_heap hXx 4
          have x5 := cell_of_heap hXx 5
          have x6 := cell_of_heap hXx 6
          have d0 := cell_of_heap hB2 0
          have d1 := cell_of_heap hB2 1
          have d2 := cell_of_heap hB2 2
          have d3 := cell_of_heap hB2 3
          have d4 := cell_of_heap hB2 4
          have d5 := cell_of_heap hB2 5
          have d6 := cell_of_heap hB2 6
          have f := frozen_of_heap hB2
          simp only [List.getElem?_toArray, List.getElem?_cons_zero, List.getElem?_cons_succ] at x0 x1 x2 x3 x4 x5 x6 d0 d1 d2 d3 d4 d5 d6
          have G : Hid (w2.heap[B]? = some (.cells #[.string ⟨#[]⟩, .int .u64 0, .int .i64 0, .int .i64 0, .string ⟨#[]⟩, .int .i64 0, .slice none 0 0] 35 (0, 0)) ∧ w2.heap[D]? = some (.cells #[.string bv, .int .u64 bk, .int .i64 bser, .int .i64 bsz, .string bb, .int .i64 bq, .slice ba bl.length bc] 35 (0, 0)) ∧ SnapsAt w2 (.slice ba bl.length bc) bl ∧ Below w.heap.size w w2 ∧ D < w2.heap.size) := ⟨hA2, hB2, hS2, hbw2, by omega⟩
          clear hA2 hB2 hS2 hSm2 hbw2 hXx
          go_upto_region 7 with (fail)
          rw [← HW2.out, ← HX.out]
          rw [← HW2.out, ← HX.out] at u0
          rw [← HW2.out] at u1
          by_cases hc0 : c = 0
          · cases p with
            | none => exact absurd ⟨hc0, .inl rfl⟩ hcase
            | some p0 =>
              have hser : mser ≤ bser := by
                rcases Int.lt_or_le bser mser with e | e
                · exact absurd ⟨hc0, .inr e⟩ hcase
                · exact e
              subst hc0
              clear hcase
              simp only [errOf, atOf]
              go_wp2
              go_roundw
              case rel => exact ⟨k + 1, bv, bk, bser, bsz, bb, bq, bl, ba, bc, some p0, by go_num, by omega, hpk1, rfl, G.out.1, G.out.2.1, G.out.2.2.1, G.out.2.2.2.1, G.out.2.2.2.2⟩
              case measure => simp [intOf]; omega
          · have hcn : (c == 0) = false := by rw [beq_eq_false_iff_ne]; exact hc0
            clear hcase hc0
            go_wp2
            go_roundw
            case rel => exact ⟨k + 1, bv, bk, bser, bsz, bb, bq, bl, ba, bc, p, by go_num, by omega, hpk1, rfl, G.out.1, G.out.2.1, G.out.2.2.1, G.out.2.2.2.1, G.out.2.2.2.2⟩
            case measure => simp [intOf]; omega
    · obtain rfl : k = ss.length := by omega
      have x0 := cell_of_heap hA 0
      have x1 := cell_of_heap hA 1
      have x2 := cell_of_heap hA 2
      have x3 := cell_of_heap hA 3
      have x4 := cell_of_heap hA 4
      have x5 := cell_of_heap hA 5
      have x6 := cell_of_heap hA 6
      have d0 := cell_of_heap hB 0
      have d1 := cell_of_heap hB 1
      have d2 := cell_of_heap hB 2
      have d3 := cell_of_heap hB 3
      have d4 := cell_of_heap hB 4
      have d5 := cell_of_heap hB 5
      have d6 := cell_of_heap hB 6
      have f := frozen_of_heap hA
      simp only [List.getElem?_toArray, List.getElem?_cons_zero, List.getElem?_cons_succ] at x0 x1 x2 x3 x4 x5 x6 d0 d1 d2 d3 d4 d5 d6
      have HA := Lib.hid hA
      have HBB2 := Lib.hid hB
      have HS := Lib.hid hS
      clear hA hB hS
      go_wp2
      obtain ⟨g1, g2⟩ := seven HA.out (.string bv) (.int .u64 bk) (.int .i64 bser) (.int .i64 bsz) (.string bb) (.int .i64 bq) (.slice ba bl.length bc)
      refine leaveB (res12 g1 rfl rfl ) ⟨.slice ba bl.length bc, ?_, ?_, hbr.trans (g2.below (fun j e => by omega) hbr.size)⟩
      · rw [hpk.out]; rfl
      · rw [hpk.out]; exact snaps_apart HS.out HA.out g2
end Go.Proofs.Ytmkcphelmgkipaa
