import Derived.Test.YtmkcphelmgkipaaT62
import Derived.Test.YtmkcphelmgkipaaT59
import Derived.Test.YtmkcphelmgkipaaT46
import Derived.Test.YtmkcphelmgkipaaT47
import Derived.Deep.Cut
set_option linter.unusedVariables false
set_option linter.unusedSimpArgs false
namespace Go.Proofs.Ytmkcphelmgkipaa
open Go.RowKit
attribute [local go_sem ↓] Go.wp_at_zero Go.wp_at_succ

/-! The law ManiTurns, walked. -/

def Yes (w : World) (e : Ending) (w' : World) : Prop := e = .returned (.bool true) ∧ Below w.heap.size w w'

theorem fits_of {m : Man} (hf : FewM m) : Fits m := by
  refine ⟨by have := hf.vol; omega, by have := hf.bvol; omega, by have := hf.len; omega, fun x hx => ?_⟩
  obtain ⟨i, hi, rfl⟩ := List.mem_iff_getElem.mp hx
  have := hf.names i hi
  rw [List.getD_eq_getElem?_getD, List.getElem?_eq_getElem hi] at this
  simp only [Option.getD_some] at this
  omega

theorem turned_len (m : Man) : (turned m).1.snaps.length ≤ 1000000 := by
  unfold turned
  split
  · rename_i h; have := (chk_good h).many; show m.snaps.length ≤ _; omega
  · simp [Man.zero]
theorem withM_len (m : Man) (l : List Snp) : (withM m l).1.snaps.length ≤ 1000000 := by
  unfold withM
  split
  · simp [Man.zero]
  · split
    · simp [Man.zero]
    · exact turned_len _
theorem resizeM_len (m : Man) (z : Int) : (resizeM m z).1.snaps.length ≤ 1000000 := by
  unfold resizeM
  split
  · simp [Man.zero]
  · exact turned_len _
theorem withoutM_len (m : Man) (n : ByteArray) : (withoutM m n).1.snaps.length ≤ 1000000 := by
  unfold withoutM
  split
  · simp [Man.zero]
  · split
    · simp [Man.zero]
    · exact turned_len _

def Man.only (l : List Snp) : Man := ⟨⟨#[]⟩, 0, 0, 0, ⟨#[]⟩, 0, l⟩

set_option maxHeartbeats 8000000 in
set_option maxRecDepth 100000 in
theorem turns_any (m : Man) (sv : Value) (l : List Snp) (lv : Value) (z : Int) (w : World) (hS : SnapsAt w sv m.snaps) (hcap : CapOk sv m.snaps.length) (hL : SnapsAt w lv l) (hm : m.snaps.length ≤ 9223372036854775807) (hl : l.length ≤ 9223372036854775807) :
    Calls Try.prog 6 #[m.val sv, lv, .int .i64 z] w (Yes w) := by
  have HF1 : Hid (∀ W, SnapsAt W sv m.snaps → Calls Try.prog 15 #[m.val sv] W (FewManPost m W)) := fun W hW => few15_any m sv W hW hm
  have HF2 : Hid (∀ W, SnapsAt W lv l → Calls Try.prog 15 #[(Man.only l).val lv] W (FewManPost (Man.only l) W)) := fun W hW => few15_any (Man.only l) lv W hW hl
  have HLF : Hid (FewM (Man.only l) → ∀ x ∈ l, x.name.size ≤ 140737488351232) := fun h => (fits_of h).names
  have HWITH : Hid (FewM m → FewM (Man.only l) → ∀ W, SnapsAt W sv m.snaps → SnapsAt W lv l → Calls Try.prog 19 #[m.val sv, lv] W (ManPost (withM m l) W)) := fun h1 h2 W hW hW2 => with_any m sv l lv W (fits_of h1) hW hW2 (by have := h1.len; omega) (by have := h2.len; unfold Man.only at this; simp only at this; omega) (HLF.out h2)
  have HRWITH : Hid (FewM m → FewM (Man.only l) → ∀ W sp lp, SnapsAt W sp m.snaps → CapOk sp m.snaps.length → SnapsAt W lp l → Calls Try.prog 20 #[m.val sp, lp] W (ManPost (withM m l) W)) := fun h1 h2 W sp lp hW hc hW2 => rwith_any m sp l lp W (fits_of h1) hW hc hW2 (by have := h1.len; omega) (by have := h2.len; unfold Man.only at this; simp only at this; omega) (HLF.out h2)
  have HRES : Hid (FewM m → ∀ W, SnapsAt W sv m.snaps → Calls Try.prog 22 #[m.val sv, .int .i64 z] W (ManPost (resizeM m z) W)) := fun h1 W hW => resize_any m sv z W (fits_of h1) hW (by have := h1.len; omega)
  have HRRES : Hid (FewM m → ∀ W sp, SnapsAt W sp m.snaps → Calls Try.prog 23 #[m.val sp, .int .i64 z] W (ManPost (resizeM m z) W)) := fun h1 W sp hW => rresize_any m sp z W (fits_of h1) hW
  obtain ⟨nm, hnm⟩ : ∃ n, n = (l.getD 0 Snp.zero).name := ⟨_, rfl⟩
  have HOUT : Hid (FewM m → ∀ W, SnapsAt W sv m.snaps → Calls Try.prog 24 #[m.val sv, .string nm] W (ManPost (withoutM m nm) W)) := fun h1 W hW => without_any m sv nm W (fits_of h1) hW hcap (by have := h1.len; omega)
  have HROUT : Hid (FewM m → ∀ W sp, SnapsAt W sp m.snaps → CapOk sp m.snaps.length → Calls Try.prog 25 #[m.val sp, .string nm] W (ManPost (withoutM m nm) W)) := fun h1 W sp hW hc => rwithout_any m sp nm W (fits_of h1) hW hc (by have := h1.len; omega)
  have HPL : Hid (FewM m → ∀ W, SnapsAt W sv m.snaps → Calls Try.prog 14 #[m.val sv] W (PlainPost m W)) := fun h1 W hW => lplain_cap m sv W hW (by have := h1.len; omega)
  have HSN : Hid (FewM (Man.only l) → ∀ W, SnapsAt W lv l → Calls Try.prog 21 #[lv] W fun e w' => ∃ sv', e = .returned sv' ∧ w'.ownsRow W.heap.size 81 3 sv' l.length (rowVals l) ∧ Below W.heap.size W w') := fun h2 W hW => snaps_any lv l W hW (by have := h2.len; unfold Man.only at this; simp only at this; omega)
  have LA := Lib.hid (withM_len m l)
  have LB := Lib.hid (resizeM_len m z)
  have LC := Lib.hid (withoutM_len m nm)
  generalize withM m l = WA at *
  generalize resizeM m z = WB at *
  generalize withoutM m nm = WC at *
  obtain ⟨⟨pv, pk, ps, pz, pb, pq, pl⟩, pe⟩ := WA
  obtain ⟨⟨rv, rk, rs, rz, rb, rq, rl⟩, re⟩ := WB
  obtain ⟨⟨tv, tk, ts, tz, tb, tq, tl⟩, te⟩ := WC
  have HNM := Lib.hid hnm
  clear hnm
  obtain ⟨v, key, serial, size, bv, bs, ms⟩ := m
  have HO : Hid (Man.only l = Man.only l) := rfl
  simp only [Man.val] at *
  have HSS := Lib.hid hS
  have HLS := Lib.hid hL
  obtain ⟨sa, scap, rfl, _⟩ := hS
  obtain ⟨la, lcap, rfl, hlc⟩ := hL
  have HLC := Lib.hid hlc
  clear hlc hcap
  obtain ⟨w0, hw0⟩ : ∃ W, W = w.alloc (.cells #[.string v, .int .u64 key, .int .i64 serial, .int .i64 size, .string bv, .int .i64 bs, .slice sa ms.length scap] 29) := ⟨_, rfl⟩
  obtain ⟨hA0, hb0, hz0⟩ := one_new w #[.string v, .int .u64 key, .int .i64 serial, .int .i64 size, .string bv, .int .i64 bs, .slice sa ms.length scap] 29
  rw [← hw0] at hA0 hb0 hz0
  have HW0 := Lib.hid hw0
  obtain ⟨x0, x1, x2, x3, x4, x5, x6⟩ := cells7 hA0
  have HA0 := Lib.hid hA0
  have HB0 := Lib.hid hb0
  have HS0 := Lib.hid (Snaps_later hb0 HSS.out)
  have HL0 := Lib.hid (Snaps_later hb0 HLS.out)
  clear hw0 hA0 hb0 hz0
  go_enter Try.func6, Try.ntmps6
  go_wp2_with fail
  rw [← HW0.out]
  refine (HF1.out w0 HS0.out).mono ?_
  rintro e w1 ⟨r1, rfl, hr1, hb1⟩
  have HA1 := Lib.hid (later hb1 HA0.out)
  have HB1 := Lib.hid (below_on HB0.out hb1)
  have HS1 := Lib.hid (Snaps_later hb1 HS0.out)
  have HL1 := Lib.hid (Snaps_later hb1 HL0.out)
  clear x0 x1 x2 x3 x4 x5 x6 hb1
  cases r1 with
  | false =>
    go_wp2_with fail
    refine (awake_any _).mono ?_
    rintro e w2 ⟨rfl, hb⟩
    go_wp2
    go_ret
    exact ⟨rfl, below_on HB1.out hb⟩
  | true =>
    have HFM := Lib.hid (hr1 rfl)
    clear hr1
    by_cases h10 : 10 < l.length
    · go_wp2_with fail
      refine (awake_any _).mono ?_
      rintro e w2 ⟨rfl, hb⟩
      go_wp2
      go_ret
      exact ⟨rfl, below_on HB1.out hb⟩
    · go_wp2_with fail
      refine (HF2.out w1 HL1.out).mono ?_
      rintro e w2 ⟨r2, rfl, hr2, hb2⟩
      have HA2 := Lib.hid (later hb2 HA1.out)
      have HB2 := Lib.hid (below_on HB1.out hb2)
      have HS2 := Lib.hid (Snaps_later hb2 HS1.out)
      have HL2 := Lib.hid (Snaps_later hb2 HL1.out)
      clear hb2
      cases r2 with
      | false =>
        go_wp2_with fail
        refine (awake_any _).mono ?_
        rintro e w3 ⟨rfl, hb⟩
        go_wp2
        go_ret
        exact ⟨rfl, below_on HB2.out hb⟩
      | true =>
        have HFL := Lib.hid (hr2 rfl)
        clear hr2

        obtain ⟨x0, x1, x2, x3, x4, x5, x6⟩ := cells7 HA2.out
        go_wp2_with fail
        refine (HWITH.out HFM.out HFL.out w2 HS2.out HL2.out).mono ?_
        rintro e w3 ⟨s3, rfl, hS3, hb3⟩
        have HA3 := Lib.hid (later hb3 HA2.out)
        have HB3 := Lib.hid (below_on HB2.out hb3)
        have HS3 := Lib.hid (Snaps_later hb3 HS2.out)
        have HL3 := Lib.hid (Snaps_later hb3 HL2.out)
        clear hb3
        clear x0 x1 x2 x3 x4 x5 x6
        have HPA3 := Lib.hid hS3
        obtain ⟨pa, pc, rfl, _⟩ := hS3
        simp only [Man.val]
        obtain ⟨w4, hw4⟩ : ∃ W, W = w3.alloc (.cells #[.string pv, .int .u64 pk, .int .i64 ps, .int .i64 pz, .string pb, .int .i64 pq, .slice pa pl.length pc] 29) := ⟨_, rfl⟩
        obtain ⟨hP4, hb4, hz4⟩ := one_new w3 #[.string pv, .int .u64 pk, .int .i64 ps, .int .i64 pz, .string pb, .int .i64 pq, .slice pa pl.length pc] 29
        have hlit := cells7 (later hb4 HA3.out)
        rw [← hw4] at hP4 hb4
        obtain ⟨bP, hbP⟩ : ∃ B, B = w3.heap.size := ⟨_, rfl⟩
        rw [← hbP] at hP4
        have HW4 := Lib.hid hw4
        have HEP := Lib.hid hbP
        have HA4 := Lib.hid (later hb4 HA3.out)
        have HB4 := Lib.hid (below_on HB3.out hb4)
        have HS4 := Lib.hid (Snaps_later hb4 HS3.out)
        have HL4 := Lib.hid (Snaps_later hb4 HL3.out)
        have HPA4 := Lib.hid (Snaps_later hb4 HPA3.out)
        have HP4 := Lib.hid hP4
        obtain ⟨l0, l1, l2, l3, l4, l5, l6⟩ := hlit
        clear hw4 hbP hP4 hb4 hz4
        go_wp2_with fail
        rw [← HW4.out, ← HEP.out]
        refine (HPL.out HFM.out w4 HS4.out).mono ?_
        rintro e w5 ⟨u5, rfl, hU5, hb5, hc5⟩
        have HA5 := Lib.hid (later hb5 HA4.out)
        have HP5 := Lib.hid (later hb5 HP4.out)
        have HB5 := Lib.hid (below_on HB4.out hb5)
        have HS5 := Lib.hid (Snaps_later hb5 HS4.out)
        have HL5 := Lib.hid (Snaps_later hb5 HL4.out)
        have HPA5 := Lib.hid (Snaps_later hb5 HPA4.out)
        clear hb5 l0 l1 l2 l3 l4 l5 l6
        have HU5 := Lib.hid hU5
        have HCU := Lib.hid hc5
        clear hU5 hc5
        go_wp2_with fail
        refine (HSN.out HFL.out w5 HL5.out).mono ?_
        rintro e w6 ⟨q6, rfl, hO6, hb6⟩
        have HA6 := Lib.hid (later hb6 HA5.out)
        have HP6 := Lib.hid (later hb6 HP5.out)
        have HB6 := Lib.hid (below_on HB5.out hb6)
        have HS6 := Lib.hid (Snaps_later hb6 HS5.out)
        have HL6 := Lib.hid (Snaps_later hb6 HL5.out)
        have HPA6 := Lib.hid (Snaps_later hb6 HPA5.out)
        have HU6 := Lib.hid (Snaps_later hb6 HU5.out)
        clear hb6
        have HQ6 := Lib.hid (snaps_of_rowE hO6)
        clear hO6
        go_wp2_with fail
        refine (HRWITH.out HFM.out HFL.out w6 u5 q6 HU6.out HCU.out HQ6.out).mono ?_
        rintro e w7 ⟨s7, rfl, hS7, hb7⟩
        have HA7 := Lib.hid (later hb7 HA6.out)
        have HP7 := Lib.hid (later hb7 HP6.out)
        have HB7 := Lib.hid (below_on HB6.out hb7)
        have HS7 := Lib.hid (Snaps_later hb7 HS6.out)
        have HL7 := Lib.hid (Snaps_later hb7 HL6.out)
        have HPA7 := Lib.hid (Snaps_later hb7 HPA6.out)
        have HU7 := Lib.hid (Snaps_later hb7 HU6.out)
        have HQ7 := Lib.hid (Snaps_later hb7 HQ6.out)
        clear hb7
        have HPB7 := Lib.hid hS7
        obtain ⟨pA, pC, rfl, _⟩ := hS7
        simp only [Man.val]
        obtain ⟨w8, hw8⟩ : ∃ W, W = w7.alloc (.cells #[.string pv, .int .u64 pk, .int .i64 ps, .int .i64 pz, .string pb, .int .i64 pq, .slice pA pl.length pC] 35) := ⟨_, rfl⟩
        obtain ⟨hQ8, hb8, hz8⟩ := one_new w7 #[.string pv, .int .u64 pk, .int .i64 ps, .int .i64 pz, .string pb, .int .i64 pq, .slice pA pl.length pC] 35
        have hlit := cells7 (later hb8 HA7.out)
        rw [← hw8] at hQ8 hb8
        obtain ⟨bQ, hbQ⟩ : ∃ B, B = w7.heap.size := ⟨_, rfl⟩
        rw [← hbQ] at hQ8
        have HW8 := Lib.hid hw8
        have HEQ := Lib.hid hbQ
        have HA8 := Lib.hid (later hb8 HA7.out)
        have HP8 := Lib.hid (later hb8 HP7.out)
        have HB8 := Lib.hid (below_on HB7.out hb8)
        have HS8 := Lib.hid (Snaps_later hb8 HS7.out)
        have HL8 := Lib.hid (Snaps_later hb8 HL7.out)
        have HPA8 := Lib.hid (Snaps_later hb8 HPA7.out)
        have HPB8 := Lib.hid (Snaps_later hb8 HPB7.out)
        have HQ8 := Lib.hid hQ8
        obtain ⟨l0, l1, l2, l3, l4, l5, l6⟩ := hlit
        clear hw8 hbQ hQ8 hb8 hz8
        go_wp2_with fail
        rw [← HW8.out, ← HEQ.out]
        refine (HRES.out HFM.out w8 HS8.out).mono ?_
        rintro e w9 ⟨s9, rfl, hS9, hb9⟩
        have HA9 := Lib.hid (later hb9 HA8.out)
        have HP9 := Lib.hid (later hb9 HP8.out)
        have HQ9 := Lib.hid (later hb9 HQ8.out)
        have HB9 := Lib.hid (below_on HB8.out hb9)
        have HS9 := Lib.hid (Snaps_later hb9 HS8.out)
        have HL9 := Lib.hid (Snaps_later hb9 HL8.out)
        have HPA9 := Lib.hid (Snaps_later hb9 HPA8.out)
        have HPB9 := Lib.hid (Snaps_later hb9 HPB8.out)
        clear hb9 l0 l1 l2 l3 l4 l5 l6
        have HRA9 := Lib.hid hS9
        obtain ⟨ra, rc, rfl, _⟩ := hS9
        simp only [Man.val]
        obtain ⟨w10, hw10⟩ : ∃ W, W = w9.alloc (.cells #[.string rv, .int .u64 rk, .int .i64 rs, .int .i64 rz, .string rb, .int .i64 rq, .slice ra rl.length rc] 29) := ⟨_, rfl⟩
        obtain ⟨hR10, hb10, hz10⟩ := one_new w9 #[.string rv, .int .u64 rk, .int .i64 rs, .int .i64 rz, .string rb, .int .i64 rq, .slice ra rl.length rc] 29
        have hlit := cells7 (later hb10 HA9.out)
        rw [← hw10] at hR10 hb10
        obtain ⟨bR, hbR⟩ : ∃ B, B = w9.heap.size := ⟨_, rfl⟩
        rw [← hbR] at hR10
        have HW10 := Lib.hid hw10
        have HER := Lib.hid hbR
        have HA10 := Lib.hid (later hb10 HA9.out)
        have HP10 := Lib.hid (later hb10 HP9.out)
        have HQ10 := Lib.hid (later hb10 HQ9.out)
        have HB10 := Lib.hid (below_on HB9.out hb10)
        have HS10 := Lib.hid (Snaps_later hb10 HS9.out)
        have HL10 := Lib.hid (Snaps_later hb10 HL9.out)
        have HPA10 := Lib.hid (Snaps_later hb10 HPA9.out)
        have HPB10 := Lib.hid (Snaps_later hb10 HPB9.out)
        have HRA10 := Lib.hid (Snaps_later hb10 HRA9.out)
        have HR10 := Lib.hid hR10
        obtain ⟨l0, l1, l2, l3, l4, l5, l6⟩ := hlit
        clear hw10 hbR hR10 hb10 hz10
        go_wp2_with fail
        rw [← HW10.out, ← HER.out]
        refine (HPL.out HFM.out w10 HS10.out).mono ?_
        rintro e w11 ⟨u11, rfl, hU11, hb11, hc11⟩
        have HA11 := Lib.hid (later hb11 HA10.out)
        have HP11 := Lib.hid (later hb11 HP10.out)
        have HQ11 := Lib.hid (later hb11 HQ10.out)
        have HR11 := Lib.hid (later hb11 HR10.out)
        have HB11 := Lib.hid (below_on HB10.out hb11)
        have HS11 := Lib.hid (Snaps_later hb11 HS10.out)
        have HL11 := Lib.hid (Snaps_later hb11 HL10.out)
        have HPA11 := Lib.hid (Snaps_later hb11 HPA10.out)
        have HPB11 := Lib.hid (Snaps_later hb11 HPB10.out)
        have HRA11 := Lib.hid (Snaps_later hb11 HRA10.out)
        clear hb11 l0 l1 l2 l3 l4 l5 l6
        have HV11 := Lib.hid hU11
        clear hU11 hc11
        go_wp2_with fail
        refine (HRRES.out HFM.out w11 u11 HV11.out).mono ?_
        rintro e w12 ⟨s12, rfl, hS12, hb12⟩
        have HA12 := Lib.hid (later hb12 HA11.out)
        have HP12 := Lib.hid (later hb12 HP11.out)
        have HQ12 := Lib.hid (later hb12 HQ11.out)
        have HR12 := Lib.hid (later hb12 HR11.out)
        have HB12 := Lib.hid (below_on HB11.out hb12)
        have HS12 := Lib.hid (Snaps_later hb12 HS11.out)
        have HL12 := Lib.hid (Snaps_later hb12 HL11.out)
        have HPA12 := Lib.hid (Snaps_later hb12 HPA11.out)
        have HPB12 := Lib.hid (Snaps_later hb12 HPB11.out)
        have HRA12 := Lib.hid (Snaps_later hb12 HRA11.out)
        have HV12 := Lib.hid (Snaps_later hb12 HV11.out)
        clear hb12
        have HRB12 := Lib.hid hS12
        obtain ⟨rA, rC, rfl, _⟩ := hS12
        simp only [Man.val]
        obtain ⟨w13, hw13⟩ : ∃ W, W = w12.alloc (.cells #[.string rv, .int .u64 rk, .int .i64 rs, .int .i64 rz, .string rb, .int .i64 rq, .slice rA rl.length rC] 35) := ⟨_, rfl⟩
        obtain ⟨hT13, hb13, hz13⟩ := one_new w12 #[.string rv, .int .u64 rk, .int .i64 rs, .int .i64 rz, .string rb, .int .i64 rq, .slice rA rl.length rC] 35
        have hlit := cells7 (later hb13 HA12.out)
        rw [← hw13] at hT13 hb13
        obtain ⟨bT, hbT⟩ : ∃ B, B = w12.heap.size := ⟨_, rfl⟩
        rw [← hbT] at hT13
        have HW13 := Lib.hid hw13
        have HET := Lib.hid hbT
        have HA13 := Lib.hid (later hb13 HA12.out)
        have HP13 := Lib.hid (later hb13 HP12.out)
        have HQ13 := Lib.hid (later hb13 HQ12.out)
        have HR13 := Lib.hid (later hb13 HR12.out)
        have HB13 := Lib.hid (below_on HB12.out hb13)
        have HS13 := Lib.hid (Snaps_later hb13 HS12.out)
        have HL13 := Lib.hid (Snaps_later hb13 HL12.out)
        have HPA13 := Lib.hid (Snaps_later hb13 HPA12.out)
        have HPB13 := Lib.hid (Snaps_later hb13 HPB12.out)
        have HRA13 := Lib.hid (Snaps_later hb13 HRA12.out)
        have HRB13 := Lib.hid (Snaps_later hb13 HRB12.out)
        have HT13 := Lib.hid hT13
        obtain ⟨l0, l1, l2, l3, l4, l5, l6⟩ := hlit
        clear hw13 hbT hT13 hb13 hz13
        go_upto_region 7 with (fail)
        rw [← HW13.out, ← HET.out]
        clear l0 l1 l2 l3 l4 l5 l6
        obtain ⟨x0, x1, x2, x3, x4, x5, x6⟩ := cells7 HP13.out
        obtain ⟨y0, y1, y2, y3, y4, y5, y6⟩ := cells7 HQ13.out
        have HK1 : Hid (∀ W, SnapsAt W (.slice pa pl.length pc) pl → SnapsAt W (.slice pA pl.length pC) pl → Calls Try.prog 10 #[.agg #[.string pv, .int .u64 pk, .int .i64 ps, .int .i64 pz, .string pb, .int .i64 pq, .slice pa pl.length pc], .int .i64 pe, .agg #[.string pv, .int .u64 pk, .int .i64 ps, .int .i64 pz, .string pb, .int .i64 pq, .slice pA pl.length pC], .int .i64 pe] W fun e w' => e = .returned (.bool true) ∧ Below W.heap.size W w') := fun W h1 h2 => like_any (⟨pv, pk, ps, pz, pb, pq, pl⟩ : Man) pe _ _ W h1 h2 LA.out
        go_wp2_with fail
        refine (HK1.out w13 HPA13.out HPB13.out).mono ?_
        rintro e w14 ⟨rfl, hb14⟩
        have HA14 := Lib.hid (later hb14 HA13.out)
        have HP14 := Lib.hid (later hb14 HP13.out)
        have HQ14 := Lib.hid (later hb14 HQ13.out)
        have HR14 := Lib.hid (later hb14 HR13.out)
        have HT14 := Lib.hid (later hb14 HT13.out)
        have HB14 := Lib.hid (below_on HB13.out hb14)
        have HS14 := Lib.hid (Snaps_later hb14 HS13.out)
        have HL14 := Lib.hid (Snaps_later hb14 HL13.out)
        have HPA14 := Lib.hid (Snaps_later hb14 HPA13.out)
        have HPB14 := Lib.hid (Snaps_later hb14 HPB13.out)
        have HRA14 := Lib.hid (Snaps_later hb14 HRA13.out)
        have HRB14 := Lib.hid (Snaps_later hb14 HRB13.out)
        clear hb14
        clear x0 x1 x2 x3 x4 x5 x6 y0 y1 y2 y3 y4 y5 y6
        obtain ⟨x0, x1, x2, x3, x4, x5, x6⟩ := cells7 HR14.out
        obtain ⟨y0, y1, y2, y3, y4, y5, y6⟩ := cells7 HT14.out
        have HK2 : Hid (∀ W, SnapsAt W (.slice ra rl.length rc) rl → SnapsAt W (.slice rA rl.length rC) rl → Calls Try.prog 10 #[.agg #[.string rv, .int .u64 rk, .int .i64 rs, .int .i64 rz, .string rb, .int .i64 rq, .slice ra rl.length rc], .int .i64 re, .agg #[.string rv, .int .u64 rk, .int .i64 rs, .int .i64 rz, .string rb, .int .i64 rq, .slice rA rl.length rC], .int .i64 re] W fun e w' => e = .returned (.bool true) ∧ Below W.heap.size W w') := fun W h1 h2 => like_any (⟨rv, rk, rs, rz, rb, rq, rl⟩ : Man) re _ _ W h1 h2 LB.out
        go_wp2_with fail
        refine (HK2.out w14 HRA14.out HRB14.out).mono ?_
        rintro e w15 ⟨rfl, hb15⟩
        have HA15 := Lib.hid (later hb15 HA14.out)
        have HP15 := Lib.hid (later hb15 HP14.out)
        have HQ15 := Lib.hid (later hb15 HQ14.out)
        have HR15 := Lib.hid (later hb15 HR14.out)
        have HT15 := Lib.hid (later hb15 HT14.out)
        have HB15 := Lib.hid (below_on HB14.out hb15)
        have HS15 := Lib.hid (Snaps_later hb15 HS14.out)
        have HL15 := Lib.hid (Snaps_later hb15 HL14.out)
        have HPA15 := Lib.hid (Snaps_later hb15 HPA14.out)
        have HPB15 := Lib.hid (Snaps_later hb15 HPB14.out)
        have HRA15 := Lib.hid (Snaps_later hb15 HRA14.out)
        have HRB15 := Lib.hid (Snaps_later hb15 HRB14.out)
        clear hb15
        clear x0 x1 x2 x3 x4 x5 x6 y0 y1 y2 y3 y4 y5 y6
        go_upto_if 78 with (fail)
        go_cut [15] from 20 (fun s15 wc => s15 = .string nm ∧ wc = w15)
        case first =>
          by_cases h0 : 0 < l.length
          · obtain ⟨b, off, rfl, hc0, _, _⟩ := HLC.out 0 h0
            have c0 := (HB15.out.cell (p := ⟨b, off + 0 * 3, none⟩) (World.block_lt_of_cell? _ _ hc0)).trans hc0
            rw [← HNM.out, Nat.zero_mul, Nat.add_zero] at c0
            have hi1 : (0 : Int) < (l.length : Int) := by omega
            clear hc0
            go_wp2
            go_meet
            case rel => exact ⟨rfl, rfl⟩
          · have hl0 : l = [] := List.length_eq_zero_iff.1 (by omega)
            have hn0 : nm = ⟨#[]⟩ := by rw [HNM.out, hl0]; rfl
            have HN0 := Lib.hid hn0
            clear hl0 hn0
            go_wp2
            go_meet
            case rel => exact ⟨by rw [HN0.out], rfl⟩
        case rest =>
          obtain ⟨rfl, hwc⟩ := hcut
          have hwc' := hwc.symm
          clear hwc
          subst hwc'
          obtain ⟨x0, x1, x2, x3, x4, x5, x6⟩ := cells7 HA15.out
          go_wp2_with fail
          refine (HOUT.out HFM.out w15 HS15.out).mono ?_
          rintro e w16 ⟨s16, rfl, hS16, hb16⟩
          have HA16 := Lib.hid (later hb16 HA15.out)
          have HB16 := Lib.hid (below_on HB15.out hb16)
          have HS16 := Lib.hid (Snaps_later hb16 HS15.out)
          have HL16 := Lib.hid (Snaps_later hb16 HL15.out)
          clear hb16
          clear x0 x1 x2 x3 x4 x5 x6
          have HTA16 := Lib.hid hS16
          obtain ⟨ta, tc, rfl, _⟩ := hS16
          simp only [Man.val]
          obtain ⟨w17, hw17⟩ : ∃ W, W = w16.alloc (.cells #[.string tv, .int .u64 tk, .int .i64 ts, .int .i64 tz, .string tb, .int .i64 tq, .slice ta tl.length tc] 29) := ⟨_, rfl⟩
          obtain ⟨hU17, hb17, hz17⟩ := one_new w16 #[.string tv, .int .u64 tk, .int .i64 ts, .int .i64 tz, .string tb, .int .i64 tq, .slice ta tl.length tc] 29
          have hlit := cells7 (later hb17 HA16.out)
          rw [← hw17] at hU17 hb17
          obtain ⟨bU, hbU⟩ : ∃ B, B = w16.heap.size := ⟨_, rfl⟩
          rw [← hbU] at hU17
          have HW17 := Lib.hid hw17
          have HEU := Lib.hid hbU
          have HA17 := Lib.hid (later hb17 HA16.out)
          have HB17 := Lib.hid (below_on HB16.out hb17)
          have HS17 := Lib.hid (Snaps_later hb17 HS16.out)
          have HL17 := Lib.hid (Snaps_later hb17 HL16.out)
          have HTA17 := Lib.hid (Snaps_later hb17 HTA16.out)
          have HU17 := Lib.hid hU17
          obtain ⟨l0, l1, l2, l3, l4, l5, l6⟩ := hlit
          clear hw17 hbU hU17 hb17 hz17
          go_wp2_with fail
          rw [← HW17.out, ← HEU.out]
          refine (HPL.out HFM.out w17 HS17.out).mono ?_
          rintro e w18 ⟨u18, rfl, hU18, hb18, hc18⟩
          have HA18 := Lib.hid (later hb18 HA17.out)
          have HU18 := Lib.hid (later hb18 HU17.out)
          have HB18 := Lib.hid (below_on HB17.out hb18)
          have HS18 := Lib.hid (Snaps_later hb18 HS17.out)
          have HL18 := Lib.hid (Snaps_later hb18 HL17.out)
          have HTA18 := Lib.hid (Snaps_later hb18 HTA17.out)
          clear hb18 l0 l1 l2 l3 l4 l5 l6
          have HX18 := Lib.hid hU18
          have HCX := Lib.hid hc18
          clear hU18 hc18
          go_wp2_with fail
          refine (HROUT.out HFM.out w18 u18 HX18.out HCX.out).mono ?_
          rintro e w19 ⟨s19, rfl, hS19, hb19⟩
          have HA19 := Lib.hid (later hb19 HA18.out)
          have HU19 := Lib.hid (later hb19 HU18.out)
          have HB19 := Lib.hid (below_on HB18.out hb19)
          have HS19 := Lib.hid (Snaps_later hb19 HS18.out)
          have HL19 := Lib.hid (Snaps_later hb19 HL18.out)
          have HTA19 := Lib.hid (Snaps_later hb19 HTA18.out)
          have HX19 := Lib.hid (Snaps_later hb19 HX18.out)
          clear hb19
          have HTB19 := Lib.hid hS19
          obtain ⟨tA, tC, rfl, _⟩ := hS19
          simp only [Man.val]
          obtain ⟨w20, hw20⟩ : ∃ W, W = w19.alloc (.cells #[.string tv, .int .u64 tk, .int .i64 ts, .int .i64 tz, .string tb, .int .i64 tq, .slice tA tl.length tC] 35) := ⟨_, rfl⟩
          obtain ⟨hV20, hb20, hz20⟩ := one_new w19 #[.string tv, .int .u64 tk, .int .i64 ts, .int .i64 tz, .string tb, .int .i64 tq, .slice tA tl.length tC] 35
          have hlit := cells7 (later hb20 HA19.out)
          rw [← hw20] at hV20 hb20
          obtain ⟨bV, hbV⟩ : ∃ B, B = w19.heap.size := ⟨_, rfl⟩
          rw [← hbV] at hV20
          have HW20 := Lib.hid hw20
          have HEV := Lib.hid hbV
          have HA20 := Lib.hid (later hb20 HA19.out)
          have HU20 := Lib.hid (later hb20 HU19.out)
          have HB20 := Lib.hid (below_on HB19.out hb20)
          have HS20 := Lib.hid (Snaps_later hb20 HS19.out)
          have HL20 := Lib.hid (Snaps_later hb20 HL19.out)
          have HTA20 := Lib.hid (Snaps_later hb20 HTA19.out)
          have HTB20 := Lib.hid (Snaps_later hb20 HTB19.out)
          have HV20 := Lib.hid hV20
          obtain ⟨l0, l1, l2, l3, l4, l5, l6⟩ := hlit
          clear hw20 hbV hV20 hb20 hz20
          go_upto_region 14 with (fail)
          rw [← HW20.out, ← HEV.out]
          clear l0 l1 l2 l3 l4 l5 l6
          obtain ⟨x0, x1, x2, x3, x4, x5, x6⟩ := cells7 HU20.out
          obtain ⟨y0, y1, y2, y3, y4, y5, y6⟩ := cells7 HV20.out
          have HK3 : Hid (∀ W, SnapsAt W (.slice ta tl.length tc) tl → SnapsAt W (.slice tA tl.length tC) tl → Calls Try.prog 10 #[.agg #[.string tv, .int .u64 tk, .int .i64 ts, .int .i64 tz, .string tb, .int .i64 tq, .slice ta tl.length tc], .int .i64 te, .agg #[.string tv, .int .u64 tk, .int .i64 ts, .int .i64 tz, .string tb, .int .i64 tq, .slice tA tl.length tC], .int .i64 te] W fun e w' => e = .returned (.bool true) ∧ Below W.heap.size W w') := fun W h1 h2 => like_any (⟨tv, tk, ts, tz, tb, tq, tl⟩ : Man) te _ _ W h1 h2 LC.out
          go_wp2_with fail
          refine (HK3.out w20 HTA20.out HTB20.out).mono ?_
          rintro e w21 ⟨rfl, hb21⟩
          have HA21 := Lib.hid (later hb21 HA20.out)
          have HU21 := Lib.hid (later hb21 HU20.out)
          have HV21 := Lib.hid (later hb21 HV20.out)
          have HB21 := Lib.hid (below_on HB20.out hb21)
          have HS21 := Lib.hid (Snaps_later hb21 HS20.out)
          have HL21 := Lib.hid (Snaps_later hb21 HL20.out)
          have HTA21 := Lib.hid (Snaps_later hb21 HTA20.out)
          have HTB21 := Lib.hid (Snaps_later hb21 HTB20.out)
          clear hb21
          clear x0 x1 x2 x3 x4 x5 x6 y0 y1 y2 y3 y4 y5 y6
          go_wp2_with fail
          refine (awake_any _).mono ?_
          rintro e wz ⟨rfl, hb⟩
          go_wp2
          go_ret
          exact ⟨rfl, below_on HB21.out hb⟩
end Go.Proofs.Ytmkcphelmgkipaa
