import Derived.Test.YtmkcphelmgkipaaT48
import Derived.Deep.Cut
import Derived.Outline
import Derived.Deep.RegionHeld3
import Derived.StillTailTactics
set_option linter.unusedVariables false
set_option linter.unusedSimpArgs false
namespace Go.Proofs.Ytmkcphelmgkipaa
open Go.RowKit
attribute [local go_sem ↓] Go.wp_at_zero Go.wp_at_succ

set_option maxHeartbeats 4000000 in
set_option maxRecDepth 100000 in
theorem back_any (m : Man) (sv : Value) (s : ByteArray) (i0 i1 : Int) (w : World) (hS : SnapsAt w sv m.snaps) (hin : ManIn m) (hs : s.size ≤ 9223372036854775807) (h0 : In64 i0) (h1 : In64 i1) :
    Calls Try.prog 4 #[m.val sv, .string s, .agg #[.int .i64 i0, .int .i64 i1]] w (Yes w) := by
  have HFEW : Hid (∀ W, SnapsAt W sv m.snaps → Calls Try.prog 15 #[m.val sv] W (FewManPost m W)) := fun W hW => few15_any m sv W hW (by have := hin.len; unfold maxLen at this; omega)
  have HIN := Lib.hid hin
  have H0 := Lib.hid h0
  have H1 := Lib.hid h1
  have HSS := Lib.hid hS
  have HMAN : Hid (∀ W sp c, FewM m → SnapsAt W sp m.snaps → chk m = c → Calls Try.prog 16 #[m.val sp] W fun e w' => e = .returned (.int .i64 c) ∧ Below W.heap.size W w') := fun W sp c hf hW hc => by
    rw [← hc]; exact rcheck_any m sp W (fits_in hin hf) hW
  have HENC : Hid (∀ W, FewM m → SnapsAt W sv m.snaps → chk m = 0 → Calls Try.prog 17 #[m.val sv] W fun e w' => e = .returned (.tuple #[.string (str (enc m)), .int .i64 0]) ∧ Below W.heap.size W w') := fun W hf hW hc => encode_good m sv W (fits_in hin hf) hin.key hW hc
  have HDEC : Hid (∀ W, chk m = 0 → Calls Try.prog 8 #[.string (str (enc m))] W (ManPost (m, 0) W)) := fun W hc => by
    have h := decode_any (str (enc m)) W (by rw [str_size]; have := enc_len (chk_good hc); omega)
    rwa [str_data, dman_enc m hc hin.key] at h
  have HSAME : Hid (∀ W sp sq, FewM m → SnapsAt W sp m.snaps → SnapsAt W sq m.snaps → Calls Try.prog 18 #[m.val sp, m.val sq] W fun e w' => e = .returned (.bool true) ∧ Below W.heap.size W w') := fun W sp sq hf h h' => msame_any m sp sq W h h' (by have := hf.len; omega)
  have HRSAME : Hid (∀ W sp sq, FewM m → SnapsAt W sp m.snaps → SnapsAt W sq m.snaps → Calls Try.prog 13 #[m.val sp, m.val sq] W fun e w' => e = .returned (.bool true) ∧ Below W.heap.size W w') := fun W sp sq hf h h' => rsame_any m sp sq W h h' (by have := hf.len; omega)
  have HPL : Hid (∀ W sq, FewM m → SnapsAt W sq m.snaps → Calls Try.prog 14 #[m.val sq] W fun e w' => ∃ sv', e = .returned (m.val sv') ∧ SnapsAt w' sv' m.snaps ∧ Below W.heap.size W w') := fun W sq hf hW => lplain_any m sq W hW (by have := hf.len; omega)
  clear hin h0 h1 hS
  obtain ⟨v, key, serial, size, bv, bs, l⟩ := m
  simp only [Man.val] at *
  obtain ⟨sa, scap, rfl, _⟩ := HSS.out
  obtain ⟨W0, hW0⟩ : ∃ W0, W0 = (w.alloc (.cells #[.string v, .int .u64 key, .int .i64 serial, .int .i64 size, .string bv, .int .i64 bs, .slice sa l.length scap] 29)).alloc (.cells #[.int .i64 i0, .int .i64 i1] 46) := ⟨_, rfl⟩
  obtain ⟨hA0, hB0, hb0, hz0⟩ := two_new w #[.string v, .int .u64 key, .int .i64 serial, .int .i64 size, .string bv, .int .i64 bs, .slice sa l.length scap] #[.int .i64 i0, .int .i64 i1] 29 46
  rw [← hW0] at hA0 hB0 hb0 hz0
  have hS0 := Snaps_later hb0 HSS.out
  obtain ⟨a0, a1, a2, a3, a4, a5, a6⟩ := cells7 hA0
  have HA0 := Lib.hid hA0
  have HB0 := Lib.hid hB0
  have HBL0 := Lib.hid hb0
  have HZ0 := Lib.hid hz0
  have HS0 := Lib.hid hS0
  have HW0 := Lib.hid hW0
  clear hW0 hA0 hB0 hb0 hz0 hS0
  go_enter Try.func4, Try.ntmps4
  go_wp2_with fail
  rw [← HW0.out]
  refine (HFEW.out W0 HS0.out).mono ?_
  rintro e w1 ⟨r, rfl, hr, hb1⟩
  have hA1 := later hb1 HA0.out
  have hB1 := later hb1 HB0.out
  have hS1 := Snaps_later hb1 HS0.out
  have hbl1 := below_on HBL0.out hb1
  have hz1 := hb1.size
  rw [HZ0.out] at hz1
  obtain ⟨x0, x1, x2, x3, x4, x5, x6⟩ := cells7 hA1
  clear a0 a1 a2 a3 a4 a5 a6 hb1
  have HA1 := Lib.hid hA1
  have HB1 := Lib.hid hB1
  have HS1 := Lib.hid hS1
  have HBL1 := Lib.hid hbl1
  clear hA1 hB1 hS1 hbl1
  by_cases hsb : 2000 < s.size
  · cases r with
    | false =>
      go_wp2_with fail
      refine (awake_any _).mono ?_
      rintro e w2 ⟨rfl, hb⟩
      go_wp2
      go_ret
      exact ⟨rfl, below_on HBL1.out hb⟩
    | true =>
      go_wp2_with fail
      refine (awake_any _).mono ?_
      rintro e w2 ⟨rfl, hb⟩
      go_wp2
      go_ret
      exact ⟨rfl, below_on HBL1.out hb⟩
  · cases r with
    | false =>
      go_wp2_with fail
      refine (awake_any _).mono ?_
      rintro e w2 ⟨rfl, hb⟩
      go_wp2
      go_ret
      exact ⟨rfl, below_on HBL1.out hb⟩
    | true =>
      have hfew := hr rfl
      have HF := Lib.hid hfew
      have HFIT := Lib.hid (fits_in HIN.out hfew)
      clear hr hfew
      go_wp2_with fail
      refine (HPL.out w1 _ HF.out HS1.out).mono ?_
      rintro e w2 ⟨sp, rfl, hSp, hb2⟩
      have hA2 := later hb2 HA1.out
      have hB2 := later hb2 HB1.out
      have hS2 := Snaps_later hb2 HS1.out
      have hbl2 := below_on HBL1.out hb2
      have hz2 := hb2.size
      obtain ⟨y0, y1, y2, y3, y4, y5, y6⟩ := cells7 hA2
      clear x0 x1 x2 x3 x4 x5 x6 hb2
      have HA2 := Lib.hid hA2
      have HB2 := Lib.hid hB2
      have HS2 := Lib.hid hS2
      have HSP := Lib.hid hSp
      have HBL2 := Lib.hid hbl2
      clear hA2 hB2 hS2 hbl2 hSp
      go_wp2_with fail
      obtain ⟨c, hc⟩ : ∃ c, chk (⟨v, key, serial, size, bv, bs, l⟩ : Man) = c := ⟨_, rfl⟩
      refine (HMAN.out w2 sp c HF.out HSP.out hc).mono ?_
      rintro e w3 ⟨rfl, hb3⟩
      have hA3 := later hb3 HA2.out
      have hB3 := later hb3 HB2.out
      have hS3 := Snaps_later hb3 HS2.out
      have hbl3 := below_on HBL2.out hb3
      have hz3 := hb3.size
      obtain ⟨a0, a1, a2, a3, a4, a5, a6⟩ := cells7 hA3
      clear y0 y1 y2 y3 y4 y5 y6 hb3
      have HC := Lib.hid hc
      have HA3 := Lib.hid hA3
      have HB3 := Lib.hid hB3
      have HS3 := Lib.hid hS3
      have HBL3 := Lib.hid hbl3
      clear hA3 hB3 hS3 hbl3 hc
      go_upto_if 30 with (fail)
      go_cut [] from 18 (fun wc => Below w.heap.size w wc)
      case rest =>
        have HB := Lib.hid hcut
        clear hcut a0 a1 a2 a3 a4 a5 a6
        have HCODE := Lib.hid (dman_code s.data.toList)
        have HFIT := Lib.hid (dman_fits s.data.toList (by simp; omega))
        have HKEY := Lib.hid (dman_key s.data.toList)
        have HENC : Hid (∀ m, dman s.data.toList = (m, 0) → chk m = 0 ∧ str (enc m) = s) := fun m h => ⟨(enc_dman h).1, by rw [(enc_dman h).2, str_of]⟩
        have HD := Lib.hid (decode_any s wc (by omega))
        obtain ⟨dm, hdm⟩ : ∃ dm, dman s.data.toList = dm := ⟨_, rfl⟩
        rw [hdm] at HCODE HFIT HKEY HENC HD
        clear hdm
        obtain ⟨⟨gv, gk, gs, gz, gb, gq, gl⟩, ge⟩ := dm
        go_wp2_with fail
        refine HD.out.mono ?_
        rintro e w2 ⟨s2, rfl, hS2, hb2⟩
        obtain ⟨ga, gc, rfl, hg2⟩ := hS2
        simp only [Man.val] at *
        have hS2 : SnapsAt w2 (.slice ga gl.length gc) gl := ⟨ga, gc, rfl, hg2⟩
        have HBL2 := Lib.hid (below_on HB.out hb2)
        clear hg2 HD hb2
        go_upto_region 15 with (fail)
        obtain ⟨w4, hw4⟩ : ∃ w4, w4 = w2.alloc (.cells #[.string gv, .int .u64 gk, .int .i64 gs, .int .i64 gz, .string gb, .int .i64 gq, .slice ga gl.length gc] 29) := ⟨_, rfl⟩
        obtain ⟨hY4, hb4, hz4⟩ := one_new w2 #[.string gv, .int .u64 gk, .int .i64 gs, .int .i64 gz, .string gb, .int .i64 gq, .slice ga gl.length gc] 29
        obtain ⟨Y, hY⟩ : ∃ Y, Y = w2.heap.size := ⟨_, rfl⟩
        rw [← hw4, ← hY] at hY4
        rw [← hw4] at hb4
        rw [← hw4, ← hY]
        obtain ⟨y0, y1, y2, y3, y4, y5, y6⟩ := cells7 hY4
        have HBL4 := Lib.hid (below_on HBL2.out hb4)
        have HS4 := Lib.hid (Snaps_later hb4 hS2)
        clear hw4 hY hY4 hb4 hz4 hS2
        have hcode := HCODE.out
        by_cases h0 : ge = 0
        · subst h0
          obtain ⟨hck, hen⟩ := HENC.out _ rfl
          have HE : Hid (∀ W, SnapsAt W (.slice ga gl.length gc) gl → Calls Try.prog 17 #[.agg #[.string gv, .int .u64 gk, .int .i64 gs, .int .i64 gz, .string gb, .int .i64 gq, .slice ga gl.length gc]] W fun e w' => e = .returned (.tuple #[.string s, .int .i64 0]) ∧ Below W.heap.size W w') := fun W hW => by
            have h := encode_good ⟨gv, gk, gs, gz, gb, gq, gl⟩ (.slice ga gl.length gc) W HFIT.out HKEY.out hW hck
            rwa [hen] at h
          have hss : (s.toList == s.toList) = true := by simp
          clear hck hen hcode HENC HCODE HFIT HKEY
          go_wp2_with fail
          refine (HE.out w4 HS4.out).mono ?_
          rintro e w5 ⟨rfl, hb5⟩
          have HBL5 := Lib.hid (below_on HBL4.out hb5)
          clear hb5
          go_wp2_with fail
          refine (awake_any _).mono ?_
          rintro e w6 ⟨rfl, hb6⟩
          go_wp2
          go_ret
          exact ⟨rfl, below_on HBL5.out hb6⟩
        · have hcc : ge = 10 ∨ ge = 13 ∨ ge = 14 ∨ ge = 12 := by omega
          clear hcode HENC HCODE HFIT HKEY h0
          rcases hcc with rfl | rfl | rfl | rfl
          all_goals
            go_wp2_with fail
            refine (awake_any _).mono ?_
            rintro e w6 ⟨rfl, hb6⟩
            go_wp2
            go_ret
            exact ⟨rfl, below_on HBL4.out hb6⟩
      case first =>
        by_cases hc : c = 0
        · subst hc
          go_wp2_with fail
          refine (HENC.out w3 HF.out HS3.out HC.out).mono ?_
          rintro e w4 ⟨rfl, hb4⟩
          obtain ⟨t, ht⟩ : ∃ t, t = str (enc (⟨v, key, serial, size, bv, bs, l⟩ : Man)) := ⟨_, rfl⟩
          have HDT : Hid (∀ W, Calls Try.prog 8 #[.string t] W (ManPost ((⟨v, key, serial, size, bv, bs, l⟩ : Man), 0) W)) := fun W => by
            rw [ht]
            exact HDEC.out W HC.out
          have hts : t.size ≤ 20000 := by rw [ht, str_size]; exact enc_len (chk_good HC.out)
          have HT := Lib.hid ht
          rw [← ht]
          have hA4 := later hb4 HA3.out
          have hB4 := later hb4 HB3.out
          have hS4 := Snaps_later hb4 HS3.out
          have hbl4 := below_on HBL3.out hb4
          have hz4 := hb4.size
          obtain ⟨x0, x1, x2, x3, x4, x5, x6⟩ := cells7 hA4
          clear a0 a1 a2 a3 a4 a5 a6 hb4 ht
          have HA4 := Lib.hid hA4
          have HB4 := Lib.hid hB4
          have HS4 := Lib.hid hS4
          have HBL4 := Lib.hid hbl4
          clear hA4 hB4 hS4 hbl4
          go_wp2_with fail
          refine (HDT.out w4).mono ?_
          rintro e w5 ⟨sx, rfl, hSx, hb5⟩
          obtain ⟨xa, xcap, rfl, hx5⟩ := hSx
          have hSx : SnapsAt w5 (.slice xa l.length xcap) l := ⟨xa, xcap, rfl, hx5⟩
          simp only [Man.val]
          have hA5 := later hb5 HA4.out
          have hB5 := later hb5 HB4.out
          have hS5 := Snaps_later hb5 HS4.out
          have hbl5 := below_on HBL4.out hb5
          have hz5 := hb5.size
          clear x0 x1 x2 x3 x4 x5 x6 hb5 hx5
          have HA5 := Lib.hid hA5
          have HB5 := Lib.hid hB5
          have HS5 := Lib.hid hS5
          have HBL5 := Lib.hid hbl5
          have HSX := Lib.hid hSx
          clear hA5 hB5 hS5 hbl5 hSx
          go_upto_region 6 with (fail)
          obtain ⟨w6, hw6⟩ : ∃ w6, w6 = w5.alloc (.cells #[.string v, .int .u64 key, .int .i64 serial, .int .i64 size, .string bv, .int .i64 bs, .slice xa l.length xcap] 29) := ⟨_, rfl⟩
          obtain ⟨hX6, hb6, hz6⟩ := one_new w5 #[.string v, .int .u64 key, .int .i64 serial, .int .i64 size, .string bv, .int .i64 bs, .slice xa l.length xcap] 29
          obtain ⟨X, hX⟩ : ∃ X, X = w5.heap.size := ⟨_, rfl⟩
          rw [← hw6, ← hX] at hX6 hz6
          rw [← hw6] at hb6
          rw [← hw6, ← hX]
          have hA6 := later hb6 HA5.out
          have hB6 := later hb6 HB5.out
          have HS6 := Lib.hid (Snaps_later hb6 HS5.out)
          have HSX6 := Lib.hid (Snaps_later hb6 HSX.out)
          have HBL6 := Lib.hid (below_on HBL5.out hb6)
          obtain ⟨aa0, aa1, aa2, aa3, aa4, aa5, aa6⟩ := cells7 hA6
          obtain ⟨ax0, ax1, ax2, ax3, ax4, ax5, ax6⟩ := cells7 hX6
          have HA6 := Lib.hid hA6
          have HB6 := Lib.hid hB6
          have HX6 := Lib.hid hX6
          have HX := Lib.hid hX
          clear hw6 hA6 hB6 hX6 hb6 hX
          have tok1 : True := trivial
          go_wp2_with fail
          go_region_held3 (fun w' => w'.cell? ⟨w.heap.size, 0, none⟩ = some (.string v) ∧ w'.cell? ⟨w.heap.size, 1, none⟩ = some (.int .u64 key) ∧ w'.cell? ⟨w.heap.size, 2, none⟩ = some (.int .i64 serial) ∧ w'.cell? ⟨w.heap.size, 3, none⟩ = some (.int .i64 size) ∧ w'.cell? ⟨w.heap.size, 4, none⟩ = some (.string bv) ∧ w'.cell? ⟨w.heap.size, 5, none⟩ = some (.int .i64 bs) ∧ w'.cell? ⟨w.heap.size, 6, none⟩ = some (.slice sa l.length scap) ∧ w'.cell? ⟨X, 0, none⟩ = some (.string v) ∧ w'.cell? ⟨X, 1, none⟩ = some (.int .u64 key) ∧ w'.cell? ⟨X, 2, none⟩ = some (.int .i64 serial) ∧ w'.cell? ⟨X, 3, none⟩ = some (.int .i64 size) ∧ w'.cell? ⟨X, 4, none⟩ = some (.string bv) ∧ w'.cell? ⟨X, 5, none⟩ = some (.int .i64 bs) ∧ w'.cell? ⟨X, 6, none⟩ = some (.slice xa l.length xcap))
            (first | assumption | (exact ⟨fa0, fa1, fa2, fa3, fa4, fa5, fa6, fx0, fx1, fx2, fx3, fx4, fx5, fx6⟩) | (exact ⟨ea0, ea1, ea2, ea3, ea4, ea5, ea6, ex0, ex1, ex2, ex3, ex4, ex5, ex6⟩) | (exact ⟨da0, da1, da2, da3, da4, da5, da6, dx0, dx1, dx2, dx3, dx4, dx5, dx6⟩) | (exact ⟨ca0, ca1, ca2, ca3, ca4, ca5, ca6, cx0, cx1, cx2, cx3, cx4, cx5, cx6⟩) | go_keep)
            ((first
              | (go_at_call 18; refine (HSAME.out _ _ _ HF.out ?_ ?_).mono ?_; (exact HSX6.out); (exact HS6.out); rintro e w7 ⟨rfl, hb7⟩
                 have hA7 := later hb7 HA6.out
                 have hX7 := later hb7 HX6.out
                 obtain ⟨ca0, ca1, ca2, ca3, ca4, ca5, ca6⟩ := cells7 hA7
                 obtain ⟨cx0, cx1, cx2, cx3, cx4, cx5, cx6⟩ := cells7 hX7
                 have hq7 : Below w6.heap.size w6 w7 := ⟨hb7.os, hb7.tape, hb7.output, hb7.size, hb7.block⟩
                 have hSX7 := Snaps_later hq7 HSX6.out
                 have hSA7 := Snaps_later hq7 HS6.out) 
              | (go_at_call 14; have _t := tok1; refine (HPL.out w7 _ HF.out hSX7).mono ?_; rintro e w8 ⟨sy, rfl, hSy8, hb8⟩
                 have hA8 := later hb8 hA7
                 have hX8 := later hb8 hX7
                 obtain ⟨da0, da1, da2, da3, da4, da5, da6⟩ := cells7 hA8
                 obtain ⟨dx0, dx1, dx2, dx3, dx4, dx5, dx6⟩ := cells7 hX8
                 have hSA8 := Snaps_later hb8 hSA7
                 clear tok1) 
              | (go_at_call 14; refine (HPL.out w8 _ HF.out hSA8).mono ?_; rintro e w9 ⟨sz, rfl, hSz9, hb9⟩
                 have hA9 := later hb9 hA8
                 have hX9 := later hb9 hX8
                 obtain ⟨ea0, ea1, ea2, ea3, ea4, ea5, ea6⟩ := cells7 hA9
                 obtain ⟨ex0, ex1, ex2, ex3, ex4, ex5, ex6⟩ := cells7 hX9
                 have hSy9 := Snaps_later hb9 hSy8) 
              | (go_at_call 13; refine (HRSAME.out w9 _ _ HF.out hSy9 hSz9).mono ?_; rintro e w10 ⟨rfl, hb10⟩
                 have hA10 := later hb10 hA9
                 have hX10 := later hb10 hX9
                 obtain ⟨fa0, fa1, fa2, fa3, fa4, fa5, fa6⟩ := cells7 hA10
                 obtain ⟨fx0, fx1, fx2, fx3, fx4, fx5, fx6⟩ := cells7 hX10)))
          have hB10 := later hb10 (later hb9 (later hb8 (later hq7 HB6.out)))
          have hbl10 := below_on (below_on (below_on (below_on HBL6.out hq7) hb8) hb9) hb10
          obtain ⟨t0, t1⟩ := cells2 hB10
          have HBL10 := Lib.hid hbl10
          clear aa0 aa1 aa2 aa3 aa4 aa5 aa6 ax0 ax1 ax2 ax3 ax4 ax5 ax6 ca0 ca1 ca2 ca3 ca4 ca5 ca6 cx0 cx1 cx2 cx3 cx4 cx5 cx6 da0 da1 da2 da3 da4 da5 da6 dx0 dx1 dx2 dx3 dx4 dx5 dx6 ea0 ea1 ea2 ea3 ea4 ea5 ea6 ex0 ex1 ex2 ex3 ex4 ex5 ex6 fa0 fa1 fa2 fa3 fa4 fa5 fa6 fx0 fx1 fx2 fx3 fx4 fx5 fx6
          clear hA7 hX7 hA8 hX8 hA9 hX9 hA10 hX10 hSX7 hSA7 hSA8 hSy8 hSy9 hSz9 hb7 hb8 hb9 hb10 hq7 hbl10
          have hi := H0.out
          unfold In64 at hi
          have hj := H1.out
          unfold In64 at hj
          by_cases c0 : 0 ≤ i0
          · by_cases c1 : i0 < t.size
            · by_cases c2 : i1.tmod 256 = 0
              · have hcm : (i1.tmod 256 != 0) = false := by simp [c2]
                have HC2 := Lib.hid c2
                clear c2
                go_wp2
                go_meet
                case rel => exact HBL10.out
              · have hcm : (i1.tmod 256 != 0) = true := by simp [c2]
                have HC2 := Lib.hid c2
                clear c2
                obtain ⟨n, rfl⟩ := Int.eq_ofNat_of_zero_le c0
                have hn : n < t.size := by omega
                obtain ⟨bcap, W11, hcv, hb11, hz11, hBy, hfr⟩ := bytes_of t w10
                have hB11 := later hb11 hB10
                have hbl11 := below_on HBL10.out hb11
                obtain ⟨g, hg⟩ : ∃ g, g = w10.heap.size := ⟨_, rfl⟩
                rw [← hg] at hcv hz11 hBy hfr
                obtain ⟨d, hd⟩ : ∃ d : UInt8, d = t.data.toList.getD n 0 ^^^ UInt8.ofNat (i1 % 256).toNat := ⟨_, rfl⟩
                obtain ⟨x, hx⟩ : ∃ x : UInt8, x = t.data.toList.getD n 0 := ⟨_, rfl⟩
                rw [← hx] at hd
                have hxr := turn_u8 x i1
                rw [← hd] at hxr
                have hbn := hBy n (by simpa using hn)
                rw [← hx] at hbn
                have hfn := hfr n hn
                have hback0 := back_of W11.drew g bcap n t d hBy hn
                have hback : Sem.run Try.prog (convert 52 9 (.slice (some ⟨g, 0, none⟩) t.size bcap)) (W11.setCell ⟨g, n, none⟩ (.int .u8 (d.toNat : Int))).drew = .ok (.string (str (t.data.toList.set n d))) (W11.setCell ⟨g, n, none⟩ (.int .u8 (d.toNat : Int))).drew := by
                  rw [← World.setCell_drew]; exact hback0
                clear hback0
                have hDT : Hid (∀ W, Calls Try.prog 8 #[.string (str (t.data.toList.set n d))] W (ManPost (Man.zero, 13) W)) := fun W => by
                  have h := decode_any (str (t.data.toList.set n d)) W (by rw [str_size]; simp; omega)
                  rwa [str_data, hd, hx, turned_no _ t HT.out n hn _ (turn_nz HC2.out), ← hx, ← hd] at h
                obtain ⟨z0, z1⟩ := cells2 hB11
                have hcv' := hcv
                have HG := Lib.hid hg
                have HBY := Lib.hid hBy
                have HD := Lib.hid hd
                clear hx
                have HBL11 := Lib.hid hbl11
                have HB11 := Lib.hid hB11
                clear hg hBy hd hbl11 hB11 hb11 hfr
                go_wp2
                go_still_tail 13, (by kernel_rfl)
                go_wp2_with fail
                have hgw : w.heap.size ≤ g := by rw [HG.out]; exact HBL10.out.size
                have hbl12 : Below w.heap.size w (W11.setCell ⟨g, n, none⟩ (.int .u8 (d.toNat : Int))).drew := (HBL11.out.setCell hgw _).drew
                have HBL12 := Lib.hid hbl12
                clear hbl12 hgw hback hbn hfn hxr hcv hcv' z0 z1
                generalize (W11.setCell ⟨g, n, none⟩ (.int .u8 (d.toNat : Int))).drew = W12 at *
                refine (hDT.out W12).mono ?_
                rintro e w13 ⟨sy, rfl, hSy, hb13⟩
                obtain ⟨ya, ycap, rfl, hy13⟩ := hSy
                have hSy : SnapsAt w13 (.slice ya ([] : List Snp).length ycap) [] := ⟨ya, ycap, rfl, hy13⟩
                simp only [Man.val, Man.zero]
                simp only [List.length_nil] at hSy ⊢
                have hbl13 := below_on HBL12.out hb13
                clear hb13 hy13
                go_upto_region 12 with (fail)
                obtain ⟨w14, hw14⟩ : ∃ w14, w14 = w13.alloc (.cells #[.string ⟨#[]⟩, .int .u64 0, .int .i64 0, .int .i64 0, .string ⟨#[]⟩, .int .i64 0, .slice ya 0 ycap] 29) := ⟨_, rfl⟩
                obtain ⟨hY14, hb14, hz14⟩ := one_new w13 #[.string ⟨#[]⟩, .int .u64 0, .int .i64 0, .int .i64 0, .string ⟨#[]⟩, .int .i64 0, .slice ya 0 ycap] 29
                obtain ⟨Y, hY⟩ : ∃ Y, Y = w13.heap.size := ⟨_, rfl⟩
                rw [← hw14, ← hY] at hY14
                rw [← hw14] at hb14
                rw [← hw14, ← hY]
                obtain ⟨y0, y1, y2, y3, y4, y5, y6⟩ := cells7 hY14
                have HBL14 := Lib.hid (below_on hbl13 hb14)
                have HSY := Lib.hid (Snaps_later hb14 hSy)
                have HZS : Hid (∀ W, SnapsAt W (.slice ya 0 ycap) [] → Calls Try.prog 18 #[.agg #[.string ⟨#[]⟩, .int .u64 0, .int .i64 0, .int .i64 0, .string ⟨#[]⟩, .int .i64 0, .slice ya 0 ycap], .agg #[.string ⟨#[]⟩, .int .u64 0, .int .i64 0, .int .i64 0, .string ⟨#[]⟩, .int .i64 0, .slice none 0 0]] W fun e w' => e = .returned (.bool true) ∧ Below W.heap.size W w') :=
                  fun W hW => msame_any Man.zero (.slice ya 0 ycap) (.slice none 0 0) W hW (snaps_nil _) (by simp [Man.zero])
                clear hw14 hY hY14 hb14 hz14 hbl13 hSy
                go_wp2_with fail
                refine (HZS.out w14 HSY.out).mono ?_
                rintro e w15 ⟨rfl, hb15⟩
                have hbl15 := below_on HBL14.out hb15
                clear hb15
                go_wp2
                go_meet
                case rel => exact hbl15
            · go_wp2
              go_meet
              case rel => exact HBL10.out
          · go_wp2
            go_meet
            case rel => exact HBL10.out
        · have hcf : (c == 0) = false := by simp [hc]
          go_wp2
          go_meet
          case rel => exact HBL3.out
end Go.Proofs.Ytmkcphelmgkipaa
