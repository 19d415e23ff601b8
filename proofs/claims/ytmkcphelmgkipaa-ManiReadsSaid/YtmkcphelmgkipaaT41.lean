import Derived.Test.YtmkcphelmgkipaaT40
import Derived.Deep.Cut
import Derived.Deep.RegionHeld3
set_option linter.unusedVariables false
set_option linter.unusedSimpArgs false
namespace Go.Proofs.Ytmkcphelmgkipaa
open Go.RowKit
attribute [local go_sem ↓] Go.wp_at_zero Go.wp_at_succ

theorem pks_none (ss : List ByteArray) (k : Nat) (h : (pks ss k).2 = none) : pks ss k = (Man.zero, none) := by
  induction k with
  | zero => rfl
  | succ k ih =>
    rw [pks_step] at h ⊢
    split at h
    · cases h
    · rename_i hc
      rw [if_neg hc]
      exact ih h

theorem StrsAt.below {w w' : World} {n : Nat} {sv : Value} {ss : List ByteArray} (h : StrsAt w sv ss) (hb : Below n w w') (hn : w.heap.size ≤ n) : StrsAt w' sv ss := by
  obtain ⟨a, c, e, hc⟩ := h
  refine ⟨a, c, e, fun i hi => ?_⟩
  obtain ⟨b, off, ha, h0⟩ := hc i hi
  have := World.block_lt_of_cell? _ _ h0
  exact ⟨b, off, ha, (hb.cell (p := ⟨b, off + i, none⟩) (Nat.lt_of_lt_of_le this hn)).trans h0⟩

theorem dman_snaps (l : List UInt8) (h : l.length ≤ 1000000) : (dman l).1.snaps.length ≤ 1000000 := by
  unfold dman
  split
  · simp [Man.zero]
  · split
    · simp [Man.zero]
    · split
      · show (rsnaps _ _ _).1.length ≤ _; rw [rsnaps_length]; have := rd_int_le 100 ((opened l).1.drop 4) (p6 ((opened l).1.drop 4)).2; show (p7 _).1 ≤ _; unfold p7; omega
      · simp [Man.zero]

theorem pks_snaps (ss : List ByteArray) (k : Nat) : (pks ss k).1.snaps.length ≤ 1000000 := by
  induction k with
  | zero => simp [pks, Man.zero]
  | succ k ih =>
    rw [pks_step]
    split
    · unfold dman
      split
      · simp [Man.zero]
      · split
        · simp [Man.zero]
        · split
          · show (rsnaps _ _ _).1.length ≤ _; rw [rsnaps_length]; have := rd_int_le 100 ((opened (ss.getD k ⟨#[]⟩).data.toList).1.drop 4) (p6 ((opened (ss.getD k ⟨#[]⟩).data.toList).1.drop 4)).2; show (p7 _).1 ≤ _; unfold p7; omega
          · simp [Man.zero]
    · exact ih

def Yes (w : World) (e : Ending) (w' : World) : Prop := e = .returned (.bool true) ∧ Below w.heap.size w w'

theorem below_next {w a b : World} (h : Below w.heap.size w a) (k : Below a.heap.size a b) : Below w.heap.size w b := h.trans (k.mono h.size)

set_option maxHeartbeats 4000000 in
set_option maxRecDepth 100000 in
theorem reads_any (s : ByteArray) (sv : Value) (ss : List ByteArray) (w : World) (hss : StrsAt w sv ss) (hlen : ss.length ≤ 9223372036854775807) (hsl : s.size ≤ 9223372036854775807) (hsz : ∀ x ∈ ss, x.size ≤ 9223372036854775807) :
    Calls Try.prog 3 #[.string s, sv] w (Yes w) := by
  have HSS := Lib.hid hss
  obtain ⟨a, cap, rfl, hcs⟩ := hss
  have HCS := Lib.hid hcs
  have HSZ := Lib.hid hsz
  clear hcs hsz
  by_cases hbig : 8000 < s.size ∨ 10 < ss.length
  · go_enter Try.func3, Try.ntmps3
    rcases hbig with h1 | h1
    · go_wp2_with fail
      refine (awake_any _).mono ?_
      rintro e w1 ⟨rfl, hb⟩
      go_wp2
      go_ret
      exact ⟨rfl, hb⟩
    · by_cases h0 : 8000 < s.size
      · go_wp2_with fail
        refine (awake_any _).mono ?_
        rintro e w1 ⟨rfl, hb⟩
        go_wp2
        go_ret
        exact ⟨rfl, hb⟩
      · go_wp2_with fail
        refine (awake_any _).mono ?_
        rintro e w1 ⟨rfl, hb⟩
        go_wp2
        go_ret
        exact ⟨rfl, hb⟩
  · have hs8 : s.size ≤ 8000 := by omega
    have hl10 : ss.length ≤ 10 := by omega
    clear hbig
    go_enter Try.func3, Try.ntmps3
    go_wp2
    go_loopw [5] (fun i wr => ∃ k : Nat, i = .int .i64 k ∧ k ≤ ss.length ∧ wr = w ∧ Hid (∀ j, j < k → (ss.getD j ⟨#[]⟩).size ≤ 500)) (fun i _ => ss.length - (intOf i).toNat)
    case atStart => exact ⟨0, rfl, by omega, rfl, fun j hj => by omega⟩
    case round =>
      obtain ⟨k, rfl, hkn, rfl, hsm⟩ := hrel
      by_cases hlt : k < ss.length
      · obtain ⟨b, off, rfl, hc0⟩ := HCS.out k hlt
        obtain ⟨x, hx⟩ : ∃ x, x = ss.getD k ⟨#[]⟩ := ⟨_, rfl⟩
        have hxs : x.size ≤ 9223372036854775807 := HSZ.out x (by rw [hx, List.getD_eq_getElem?_getD, List.getElem?_eq_getElem hlt]; exact List.getElem_mem hlt)
        rw [← hx] at hc0
        have HX := Lib.hid hx
        clear hx
        by_cases h5 : x.size ≤ 500
        · go_wp2
          go_roundw
          case rel =>
            refine ⟨k + 1, by go_num, by omega, trivial, fun j hj => ?_⟩
            by_cases e : j = k
            · subst e; rw [← HX.out]; exact h5
            · exact hsm.out j (by omega)
          case measure => simp [intOf]; omega
        · go_wp2_with fail
          refine (awake_any _).mono ?_
          rintro e w1 ⟨rfl, hb⟩
          go_wp2
          go_ret
          exact ⟨rfl, hb⟩
      · obtain rfl : k = ss.length := by omega
        have HS5 : Hid (∀ x ∈ ss, x.size ≤ 1000000) := fun x hx => by
          obtain ⟨i, hi, rfl⟩ := List.mem_iff_getElem.mp hx
          have := hsm.out i hi
          rw [List.getD_eq_getElem?_getD, List.getElem?_eq_getElem hi] at this
          simp only [Option.getD_some] at this
          omega
        clear hsm
        have hz : wr.heap.size ≤ wr.heap.size := Nat.le_refl _
        -- the two decoders
        have HDL := Lib.hid (dman_snaps s.data.toList (by simp; omega))
        have HD1 := Lib.hid (decode_any s wr (by omega))
        have HD2 : Hid (∀ W, Calls Try.prog 9 #[.string s] W (ManPost (dman s.data.toList) W)) := fun W => by
          have := rdecode_any s W (by omega)
          rwa [qdman_dman] at this
        generalize hdm : dman s.data.toList = dm at *
        clear hdm
        obtain ⟨⟨gv, gk, gs, gz, gb, gq, gl⟩, ge⟩ := dm
        have hgl : gl.length ≤ 1000000 := HDL.out
        go_wp2_with fail
        refine HD1.out.mono ?_
        rintro e w1 ⟨s1, rfl, hS1, hb1⟩
        obtain ⟨ga, gc, rfl, hg1⟩ := hS1
        simp only [Man.val] at *
        have hS1 : SnapsAt w1 (.slice ga gl.length gc) gl := ⟨ga, gc, rfl, hg1⟩
        clear hg1 HD1
        go_wp2_with fail
        obtain ⟨w2, hw2⟩ : ∃ w2, w2 = w1.alloc (.cells #[.string gv, .int .u64 gk, .int .i64 gs, .int .i64 gz, .string gb, .int .i64 gq, .slice ga gl.length gc] 29) := ⟨_, rfl⟩
        obtain ⟨A, hA⟩ : ∃ A, A = w1.heap.size := ⟨_, rfl⟩
        rw [← hw2, ← hA]
        have hA2 : w2.heap[A]? = some (.cells #[.string gv, .int .u64 gk, .int .i64 gs, .int .i64 gz, .string gb, .int .i64 gq, .slice ga gl.length gc] 29 (0, 0)) := by rw [hw2, hA]; exact heap_alloc_new w1 _
        have hb2 : Below w1.heap.size w1 w2 := by rw [hw2]; exact (Below.refl _ w1).alloc (Nat.le_refl _) _
        have hz2 : w2.heap.size = A + 1 := by rw [hw2, hA]; simp
        have hS2 := hS1.below hb2 (Nat.le_refl _)
        have hB2 : Below wr.heap.size wr w2 := hb1.trans (hb2.mono hb1.size)
        have HA := Lib.hid hA
        clear hw2 hA hS1 hb1 hb2
        refine (HD2.out w2).mono ?_
        rintro e w3 ⟨s3, rfl, hS3, hb3⟩
        obtain ⟨ha, hcap, rfl, hg3⟩ := hS3
        simp only [Man.val]
        have hS3 : SnapsAt w3 (.slice ha gl.length hcap) gl := ⟨ha, hcap, rfl, hg3⟩
        have hA3 := (hb3.block A (by omega)).trans hA2
        have hS23 := hS2.below hb3 (Nat.le_refl _)
        have hB3 := hB2.trans (hb3.mono (by have := hB2.size; omega))
        have hz3 := hb3.size
        clear hg3 HD2 hA2 hS2 hb3 hB2
        have HA3 := Lib.hid hA3
        clear hA3
        obtain ⟨w4, hw4⟩ : ∃ w4, w4 = w3.alloc (.cells #[.string gv, .int .u64 gk, .int .i64 gs, .int .i64 gz, .string gb, .int .i64 gq, .slice ha gl.length hcap] 35) := ⟨_, rfl⟩
        obtain ⟨C, hC⟩ : ∃ C, C = w3.heap.size := ⟨_, rfl⟩
        have HW4 := Lib.hid hw4
        have HC := Lib.hid hC
        have hC4 : w4.heap[C]? = some (.cells #[.string gv, .int .u64 gk, .int .i64 gs, .int .i64 gz, .string gb, .int .i64 gq, .slice ha gl.length hcap] 35 (0, 0)) := by rw [hw4, hC]; exact heap_alloc_new w3 _
        have hb4 : Below w3.heap.size w3 w4 := by rw [hw4]; exact (Below.refl _ w3).alloc (Nat.le_refl _) _
        have hz4 : w4.heap.size = C + 1 := by rw [hw4, hC]; simp
        have hS4 := hS23.below hb4 (Nat.le_refl _)
        have hS4' := hS3.below hb4 (Nat.le_refl _)
        have hB4 := hB3.trans (hb4.mono hB3.size)
        have hA4 := (hb4.block A (by omega)).trans HA3.out
        have HLIKE : Hid (Calls Try.prog 10 #[.agg #[.string gv, .int .u64 gk, .int .i64 gs, .int .i64 gz, .string gb, .int .i64 gq, .slice ga gl.length gc], .int .i64 ge, .agg #[.string gv, .int .u64 gk, .int .i64 gs, .int .i64 gz, .string gb, .int .i64 gq, .slice ha gl.length hcap], .int .i64 ge] w4 fun e w' => e = .returned (.bool true) ∧ Below w4.heap.size w4 w') := like_any ⟨gv, gk, gs, gz, gb, gq, gl⟩ ge (.slice ga gl.length gc) (.slice ha gl.length hcap) w4 hS4 hS4' hgl
        have HB4 := Lib.hid hB4
        have x0 := cell_of_heap hA4 0
        have x1 := cell_of_heap hA4 1
        have x2 := cell_of_heap hA4 2
        have x3 := cell_of_heap hA4 3
        have x4 := cell_of_heap hA4 4
        have x5 := cell_of_heap hA4 5
        have x6 := cell_of_heap hA4 6
        have y0 := cell_of_heap hC4 0
        have y1 := cell_of_heap hC4 1
        have y2 := cell_of_heap hC4 2
        have y3 := cell_of_heap hC4 3
        have y4 := cell_of_heap hC4 4
        have y5 := cell_of_heap hC4 5
        have y6 := cell_of_heap hC4 6
        simp only [List.getElem?_toArray, List.getElem?_cons_zero, List.getElem?_cons_succ] at x0 x1 x2 x3 x4 x5 x6 y0 y1 y2 y3 y4 y5 y6
        clear hw4 hC hb4 hS4 hS4' hB4 hS23 hS3 hB3 hA4 hC4
        go_upto_region 10 with (fail)
        rw [← HW4.out, ← HC.out]
        go_wp2_with fail
        clear x0 x1 x2 x3 x4 x5 x6 y0 y1 y2 y3 y4 y5 y6
        refine HLIKE.out.mono ?_
        rintro e w5 ⟨rfl, hb5⟩
        have hz5 := hb5.size
        have hB5 := HB4.out.trans (hb5.mono HB4.out.size)
        clear hb5 HLIKE
        have hSS5 := HSS.out.below hB5 (Nat.le_refl _)
        have HP1 := Lib.hid (pick_any _ ss w5 hSS5 (by omega) HS5.out)
        have HP2 : Hid (∀ W, StrsAt W (.slice a ss.length cap) ss → _) := fun W hW => rpick_any _ ss W hW (by omega) HS5.out
        have HPL := Lib.hid (pks_snaps ss ss.length)
        have HPN := Lib.hid (pks_none ss ss.length)
        generalize hpk : pks ss ss.length = pk at *
        clear hpk
        obtain ⟨⟨lv, lk, ls, lz, lb, lq, ll⟩, lp⟩ := pk
        have hll : ll.length ≤ 1000000 := HPL.out
        go_wp2_with fail
        refine HP1.out.mono ?_
        rintro e w6 ⟨s6, rfl, hS6, hb6⟩
        obtain ⟨la, lc, rfl, hg6⟩ := hS6
        simp only [pickVal, Man.val]
        have hS6 : SnapsAt w6 (.slice la ll.length lc) ll := ⟨la, lc, rfl, hg6⟩
        have hB6 := hB5.trans (hb6.mono hB5.size)
        clear hg6 HP1 hb6 hB5
        go_wp2_with fail
        obtain ⟨w7, hw7⟩ : ∃ w7, w7 = w6.alloc (.cells #[.string lv, .int .u64 lk, .int .i64 ls, .int .i64 lz, .string lb, .int .i64 lq, .slice la ll.length lc] 29) := ⟨_, rfl⟩
        obtain ⟨E, hE⟩ : ∃ E, E = w6.heap.size := ⟨_, rfl⟩
        rw [← hw7, ← hE]
        have hE7 : w7.heap[E]? = some (.cells #[.string lv, .int .u64 lk, .int .i64 ls, .int .i64 lz, .string lb, .int .i64 lq, .slice la ll.length lc] 29 (0, 0)) := by rw [hw7, hE]; exact heap_alloc_new w6 _
        have hb7 : Below w6.heap.size w6 w7 := by rw [hw7]; exact (Below.refl _ w6).alloc (Nat.le_refl _) _
        have hz7 : w7.heap.size = E + 1 := by rw [hw7, hE]; simp
        have hS7 := hS6.below hb7 (Nat.le_refl _)
        have hB7 := hB6.trans (hb7.mono hB6.size)
        clear hw7 hE hS6 hb7 hB6
        refine (HP2.out w7 (HSS.out.below hB7 (Nat.le_refl _))).mono ?_
        rintro e w8 ⟨s8, rfl, hS8, hb8⟩
        obtain ⟨na, nc, rfl, hg8⟩ := hS8
        simp only [rpickVal, Man.val]
        have hS8 : SnapsAt w8 (.slice na ll.length nc) ll := ⟨na, nc, rfl, hg8⟩
        have hE8 := (hb8.block E (by omega)).trans hE7
        have hS78 := hS7.below hb8 (Nat.le_refl _)
        have hz8 := hb8.size
        have hB8 := below_next hB7 hb8
        clear hg8 HP2 hE7 hS7 hb8 hB7
        obtain ⟨w9, hw9⟩ : ∃ w9, w9 = w8.alloc (.cells #[.string lv, .int .u64 lk, .int .i64 ls, .int .i64 lz, .string lb, .int .i64 lq, .slice na ll.length nc] 35) := ⟨_, rfl⟩
        obtain ⟨F, hF⟩ : ∃ F, F = w8.heap.size := ⟨_, rfl⟩
        have hF9 : w9.heap[F]? = some (.cells #[.string lv, .int .u64 lk, .int .i64 ls, .int .i64 lz, .string lb, .int .i64 lq, .slice na ll.length nc] 35 (0, 0)) := by rw [hw9, hF]; exact heap_alloc_new w8 _
        have hb9 : Below w8.heap.size w8 w9 := by rw [hw9]; exact (Below.refl _ w8).alloc (Nat.le_refl _) _
        have hz9 : w9.heap.size = F + 1 := by rw [hw9, hF]; simp
        have hEF : E < F := by omega
        have hE9 := (hb9.block E (by omega)).trans hE8
        have hS9 := hS78.below hb9 (Nat.le_refl _)
        have hS9' := hS8.below hb9 (Nat.le_refl _)
        have HW9 := Lib.hid hw9
        have HF := Lib.hid hF
        have HB9 := Lib.hid (below_next hB8 hb9)
        clear hw9 hF hb9 hE8 hS78 hS8 hB8
        go_upto_region 14 with (fail)
        rw [← HW9.out, ← HF.out]
        have HPLN : Hid (Calls Try.prog 14 #[.agg #[.string lv, .int .u64 lk, .int .i64 ls, .int .i64 lz, .string lb, .int .i64 lq, .slice la ll.length lc]] w9 fun e w' => ∃ sv', e = .returned ((⟨lv, lk, ls, lz, lb, lq, ll⟩ : Man).val sv') ∧ SnapsAt w' sv' ll ∧ Below w9.heap.size w9 w') := lplain_any ⟨lv, lk, ls, lz, lb, lq, ll⟩ (.slice la ll.length lc) w9 hS9 hll
        have HPLNd : Hid (Calls Try.prog 14 #[.agg #[.string lv, .int .u64 lk, .int .i64 ls, .int .i64 lz, .string lb, .int .i64 lq, .slice la ll.length lc]] w9.drew fun e w' => ∃ sv', e = .returned (.agg #[.string lv, .int .u64 lk, .int .i64 ls, .int .i64 lz, .string lb, .int .i64 lq, sv']) ∧ SnapsAt w' sv' ll ∧ Below w9.drew.heap.size w9.drew w') := lplain_any ⟨lv, lk, ls, lz, lb, lq, ll⟩ (.slice la ll.length lc) w9.drew hS9 hll
        have HSAME : Hid (∀ W sa sb, SnapsAt W sa ll → SnapsAt W sb ll → Calls Try.prog 13 #[(⟨lv, lk, ls, lz, lb, lq, ll⟩ : Man).val sa, (⟨lv, lk, ls, lz, lb, lq, ll⟩ : Man).val sb] W fun e w' => e = .returned (.bool true) ∧ Below W.heap.size W w') := fun W sa sb h1 h2 => rsame_any ⟨lv, lk, ls, lz, lb, lq, ll⟩ sa sb W h1 h2 hll
        have x0 := cell_of_heap hE9 0
        have x1 := cell_of_heap hE9 1
        have x2 := cell_of_heap hE9 2
        have x3 := cell_of_heap hE9 3
        have x4 := cell_of_heap hE9 4
        have x5 := cell_of_heap hE9 5
        have x6 := cell_of_heap hE9 6
        have y0 := cell_of_heap hF9 0
        have y1 := cell_of_heap hF9 1
        have y2 := cell_of_heap hF9 2
        have y3 := cell_of_heap hF9 3
        have y4 := cell_of_heap hF9 4
        have y5 := cell_of_heap hF9 5
        have y6 := cell_of_heap hF9 6
        simp only [List.getElem?_toArray, List.getElem?_cons_zero, List.getElem?_cons_succ] at x0 x1 x2 x3 x4 x5 x6 y0 y1 y2 y3 y4 y5 y6
        have HE9 := Lib.hid hE9
        have HF9 := Lib.hid hF9
        have HS9 := Lib.hid hS9'
        clear hE9 hF9 hS9 hS9'
        cases lp with
        | none =>
          have e := congrArg Prod.fst (HPN.out rfl)
          simp only [Man.zero, Man.mk.injEq] at e
          obtain ⟨rfl, rfl, rfl, rfl, rfl, rfl, rfl⟩ := e
          simp only [errOf, atOf, Option.getD_none]
          clear HPN HPL
          go_wp2_with fail
          refine HPLN.out.mono ?_
          rintro e w10 ⟨sp, rfl, hSp, hb10⟩
          have HSM := Lib.hid (HSAME.out w10 sp (.slice none 0 0) hSp (snaps_nil _))
          simp only [Man.val] at *
          have HB10 := Lib.hid (below_next HB9.out hb10)
          clear hSp hb10 HSAME
          go_wp2_with fail
          refine HSM.out.mono ?_
          rintro e w11 ⟨rfl, hb11⟩
          go_wp2_with fail
          refine (awake_any _).mono ?_
          rintro e w12 ⟨rfl, hb12⟩
          go_wp2
          go_ret
          exact ⟨rfl, below_next (below_next HB10.out hb11) hb12⟩
        | some p0 =>
          have hpp : (((p0 : Nat) : Int) == ((p0 : Nat) : Int)) = true := by simp
          simp only [errOf, atOf, Option.getD_some]
          simp only [Man.val] at *
          clear HPN HPL
          go_wp2_with fail
          go_region_held3 (fun w' => w'.cell? ⟨E, 0, none⟩ = some (.string lv) ∧ w'.cell? ⟨E, 1, none⟩ = some (.int .u64 lk) ∧ w'.cell? ⟨E, 2, none⟩ = some (.int .i64 ls) ∧ w'.cell? ⟨E, 3, none⟩ = some (.int .i64 lz) ∧ w'.cell? ⟨E, 4, none⟩ = some (.string lb) ∧ w'.cell? ⟨E, 5, none⟩ = some (.int .i64 lq) ∧ w'.cell? ⟨E, 6, none⟩ = some (.slice la ll.length lc) ∧ w'.cell? ⟨F, 0, none⟩ = some (.string lv) ∧ w'.cell? ⟨F, 1, none⟩ = some (.int .u64 lk) ∧ w'.cell? ⟨F, 2, none⟩ = some (.int .i64 ls) ∧ w'.cell? ⟨F, 3, none⟩ = some (.int .i64 lz) ∧ w'.cell? ⟨F, 4, none⟩ = some (.string lb) ∧ w'.cell? ⟨F, 5, none⟩ = some (.int .i64 lq) ∧ w'.cell? ⟨F, 6, none⟩ = some (.slice na ll.length nc))
            (first | assumption | (exact ⟨ae0, ae1, ae2, ae3, ae4, ae5, ae6, af0, af1, af2, af3, af4, af5, af6⟩) | (exact ⟨be0, be1, be2, be3, be4, be5, be6, bf0, bf1, bf2, bf3, bf4, bf5, bf6⟩) | (exact ⟨ce0, ce1, ce2, ce3, ce4, ce5, ce6, cf0, cf1, cf2, cf3, cf4, cf5, cf6⟩) | go_keep)
            ((first
              | (go_at_call 14; refine (HPLNd.out).mono ?_; rintro e w10 ⟨sp, rfl, hSp, hb10⟩
                 have hz10 : F + 1 ≤ w10.heap.size := by have := hb10.size; rw [show w9.drew.heap.size = w9.heap.size from rfl] at this; omega
                 have hE10 := (hb10.block E (by show _ < w9.heap.size; omega)).trans HE9.out
                 have hF10 := (hb10.block F (by show _ < w9.heap.size; omega)).trans HF9.out
                 have hq10 : Below w9.heap.size w9 w10 := ⟨hb10.os, hb10.tape, hb10.output, hb10.size, hb10.block⟩
                 have hT10 := HS9.out.below hq10 (Nat.le_refl _)
                 have ae0 := cell_of_heap hE10 0
                 have ae1 := cell_of_heap hE10 1
                 have ae2 := cell_of_heap hE10 2
                 have ae3 := cell_of_heap hE10 3
                 have ae4 := cell_of_heap hE10 4
                 have ae5 := cell_of_heap hE10 5
                 have ae6 := cell_of_heap hE10 6
                 have af0 := cell_of_heap hF10 0
                 have af1 := cell_of_heap hF10 1
                 have af2 := cell_of_heap hF10 2
                 have af3 := cell_of_heap hF10 3
                 have af4 := cell_of_heap hF10 4
                 have af5 := cell_of_heap hF10 5
                 have af6 := cell_of_heap hF10 6)
              | (go_at_call 13; refine (HSAME.out w10 sp _ hSp hT10).mono ?_; rintro e w11 ⟨rfl, hb11⟩
                 have hz11 := hb11.size
                 have hE11 := (hb11.block E (by omega)).trans hE10
                 have hF11 := (hb11.block F (by omega)).trans hF10
                 have be0 := cell_of_heap hE11 0
                 have be1 := cell_of_heap hE11 1
                 have be2 := cell_of_heap hE11 2
                 have be3 := cell_of_heap hE11 3
                 have be4 := cell_of_heap hE11 4
                 have be5 := cell_of_heap hE11 5
                 have be6 := cell_of_heap hE11 6
                 have bf0 := cell_of_heap hF11 0
                 have bf1 := cell_of_heap hF11 1
                 have bf2 := cell_of_heap hF11 2
                 have bf3 := cell_of_heap hF11 3
                 have bf4 := cell_of_heap hF11 4
                 have bf5 := cell_of_heap hF11 5
                 have bf6 := cell_of_heap hF11 6)
              | (go_at_call 7; refine (awake_any _).mono ?_; rintro e w12 ⟨rfl, hb12⟩
                 have hE12 := (hb12.block E (by omega)).trans hE11
                 have hF12 := (hb12.block F (by omega)).trans hF11
                 have ce0 := cell_of_heap hE12 0
                 have ce1 := cell_of_heap hE12 1
                 have ce2 := cell_of_heap hE12 2
                 have ce3 := cell_of_heap hE12 3
                 have ce4 := cell_of_heap hE12 4
                 have ce5 := cell_of_heap hE12 5
                 have ce6 := cell_of_heap hE12 6
                 have cf0 := cell_of_heap hF12 0
                 have cf1 := cell_of_heap hF12 1
                 have cf2 := cell_of_heap hF12 2
                 have cf3 := cell_of_heap hF12 3
                 have cf4 := cell_of_heap hF12 4
                 have cf5 := cell_of_heap hF12 5
                 have cf6 := cell_of_heap hF12 6)))
          go_wp2
          go_ret
          exact ⟨rfl, below_next (below_next (below_next HB9.out hq10) hb11) hb12⟩
end Go.Proofs.Ytmkcphelmgkipaa
