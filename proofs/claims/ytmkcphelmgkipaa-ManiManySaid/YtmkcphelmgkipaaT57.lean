import Derived.Test.YtmkcphelmgkipaaT56
set_option linter.unusedVariables false
set_option linter.unusedSimpArgs false
namespace Go.Proofs.Ytmkcphelmgkipaa
open Go.RowKit
attribute [local go_sem ↓] Go.wp_at_zero Go.wp_at_succ

/-! A manifest of another size, by either. -/

def Man.sized (m : Man) (z : Int) : Man := ⟨m.vol, m.key, m.serial, z, m.bvol, m.bseq, m.snaps⟩
def resizeM (m : Man) (z : Int) : Man × Int := if chk m ≠ 0 then (Man.zero, chk m) else turned (m.sized z).up

theorem res22 {W : World} {b : Nat} {c : Int} {v0 v1 v2 v3 v4 v5 v6 : Value} {tmps : Array Value} (h : W.heap[b]? = some (.cells #[v0, v1, v2, v3, v4, v5, v6] 29 (0, 0)))
    (h2 : tmps[4]? = some (.pointer (some ⟨b, 0, none⟩))) (h3 : tmps[5]? = some (.int .i64 c)) :
    (results Try.f22 tmps).run Try.prog W = .ok (.tuple #[.agg #[v0, v1, v2, v3, v4, v5, v6], .int .i64 c]) W := by
  obtain ⟨k0, k1, k2, k3, k4, k5, k6⟩ := cells7 h
  simp [results, Try.results22, go_sem, h2, h3, k0, k1, k2, k3, k4, k5, k6]

theorem res23 {W : World} {b : Nat} {c : Int} {v0 v1 v2 v3 v4 v5 v6 : Value} {tmps : Array Value} (h : W.heap[b]? = some (.cells #[v0, v1, v2, v3, v4, v5, v6] 35 (0, 0)))
    (h2 : tmps[4]? = some (.pointer (some ⟨b, 0, none⟩))) (h3 : tmps[5]? = some (.int .i64 c)) :
    (results Try.f23 tmps).run Try.prog W = .ok (.tuple #[.agg #[v0, v1, v2, v3, v4, v5, v6], .int .i64 c]) W := by
  obtain ⟨k0, k1, k2, k3, k4, k5, k6⟩ := cells7 h
  simp [results, Try.results23, go_sem, h2, h3, k0, k1, k2, k3, k4, k5, k6]

set_option maxHeartbeats 4000000 in
set_option maxRecDepth 100000 in
theorem resize_any (m : Man) (sv : Value) (z : Int) (w : World) (hf : Fits m) (hS : SnapsAt w sv m.snaps) (hm : m.snaps.length ≤ 1000) :
    Calls Try.prog 22 #[m.val sv, .int .i64 z] w (ManPost (resizeM m z) w) := by
  have HC : Hid (∀ W, SnapsAt W sv m.snaps → Calls Try.prog 33 #[m.val sv] W fun e w' => e = .returned (.int .i64 (chk m)) ∧ Below W.heap.size W w') := fun W hW => check_any m sv W hf hW
  have HCL : Hid (∀ W, SnapsAt W sv m.snaps → Calls Try.prog 47 #[sv] W (ClonePost m.snaps W)) := fun W hW => clone_any m.snaps sv W hW (by omega)
  have HBAD : Hid (∀ c, chk m = c → c ≠ 0 → resizeM m z = (Man.zero, c)) := fun c hc h => by unfold resizeM; rw [hc, if_pos h]
  have HNEXT : Hid (chk m = 0 → ∀ sq W, SnapsAt W sq m.snaps → Calls Try.prog 52 #[(m.sized z).val sq] W (NextPost (resizeM m z) sq W)) := fun hc sq W hW => by
    have hw : resizeM m z = turned (m.sized z).up := by unfold resizeM; rw [hc, if_neg (by simp)]
    rw [hw]
    have hg := (chk_good hc).serial
    exact next_sv (m.sized z) sq W ⟨hf.vol, hf.bvol, hf.len, hf.names⟩ hW (by show -9223372036854775808 ≤ m.serial; omega) (by show m.serial < 9223372036854775807; omega)
  generalize resizeM m z = WM at *
  obtain ⟨v, key, serial, size, bv, bs, ms⟩ := m
  simp only [Man.val, Man.sized] at *
  have HSS := Lib.hid hS
  obtain ⟨sa, scap, rfl, _⟩ := hS
  obtain ⟨W1, hW1⟩ : ∃ W0, W0 = (w.alloc (.cells #[.string v, .int .u64 key, .int .i64 serial, .int .i64 size, .string bv, .int .i64 bs, .slice sa ms.length scap] 29)).alloc (.cells #[.string ⟨#[]⟩, .int .u64 0, .int .i64 0, .int .i64 0, .string ⟨#[]⟩, .int .i64 0, .slice none 0 0] 29) := ⟨_, rfl⟩
  obtain ⟨hA1, hR1, hb1, hz1⟩ := two_new w #[.string v, .int .u64 key, .int .i64 serial, .int .i64 size, .string bv, .int .i64 bs, .slice sa ms.length scap] #[.string ⟨#[]⟩, .int .u64 0, .int .i64 0, .int .i64 0, .string ⟨#[]⟩, .int .i64 0, .slice none 0 0] 29 29
  rw [← hW1] at hA1 hR1 hb1 hz1
  have HW1 := Lib.hid hW1
  have HA1 := Lib.hid hA1
  have HR1 := Lib.hid hR1
  have HBL1 := Lib.hid hb1
  have HS1 := Lib.hid (Snaps_later hb1 HSS.out)
  have HZ1 := Lib.hid hz1
  clear hW1 hA1 hR1 hb1 hz1 hf
  go_enter Try.func22, Try.ntmps22
  go_wp2_with fail
  rw [← HW1.out]
  refine (HC.out W1 HS1.out).mono ?_
  rintro e w2 ⟨rfl, hb2⟩
  have hA2 := later hb2 HA1.out
  have hR2 := later hb2 HR1.out
  have hbl2 := below_on HBL1.out hb2
  have hz2 := hb2.size
  rw [HZ1.out] at hz2
  have hS2 := Snaps_later hb2 HS1.out
  obtain ⟨c, hc⟩ : ∃ c, chk ⟨v, key, serial, size, bv, bs, ms⟩ = c := ⟨_, rfl⟩
  rw [hc]
  have HCC := Lib.hid hc
  have HA2 := Lib.hid hA2
  have HR2 := Lib.hid hR2
  have HBL2 := Lib.hid hbl2
  have HS2 := Lib.hid hS2
  by_cases h0 : c = 0
  · subst h0
    obtain ⟨x0, x1, x2, x3, x4, x5, x6⟩ := cells7 hA2
    have fa := frozen_of_heap hA2
    clear hA2 hR2 hb2 hbl2 hS2 hc
    go_wp2_with fail
    refine (HCL.out w2 HS2.out).mono ?_
    rintro e w3 ⟨sl, rfl, hown, hb3⟩
    have hA3 := later hb3 HA2.out
    have hR3 := later hb3 HR2.out
    have hbl3 := below_on HBL2.out hb3
    have hz3 := hb3.size
    have hown := own_base hown (show w.heap.size + 2 ≤ w2.heap.size by omega)
    obtain ⟨y0, y1, y2, y3, y4, y5, y6⟩ := cells7 hA3
    have fa3 := frozen_of_heap hA3
    have hsS := snaps_of_rowE hown
    obtain ⟨ra, rcap, rfl⟩ := owns_slice hown
    have hK4 : KeepsBut (fun k => k = w.heap.size) w3 ((w3.setCell ⟨w.heap.size, 3, none⟩ (.int .i64 z)).setCell ⟨w.heap.size, 6, none⟩ (.slice ra ms.length rcap)) :=
      (KeepsBut.setCell (p := ⟨w.heap.size, 3, none⟩) w3 (X := fun k => k = w.heap.size) rfl _).trans (KeepsBut.setCell (p := ⟨w.heap.size, 6, none⟩) _ (X := fun k => k = w.heap.size) rfl _)
    have hA4 : ((w3.setCell ⟨w.heap.size, 3, none⟩ (.int .i64 z)).setCell ⟨w.heap.size, 6, none⟩ (.slice ra ms.length rcap)).heap[w.heap.size]? = some (.cells #[.string v, .int .u64 key, .int .i64 serial, .int .i64 z, .string bv, .int .i64 bs, .slice ra ms.length rcap] 29 (0, 0)) :=
      heap_setCell_same _ w.heap.size 6 _ 29 _ (heap_setCell_same w3 w.heap.size 3 _ 29 _ hA3)
    have hR4 := keeps_at hK4 hR3 (by omega)
    have hb4 : Below w.heap.size w ((w3.setCell ⟨w.heap.size, 3, none⟩ (.int .i64 z)).setCell ⟨w.heap.size, 6, none⟩ (.slice ra ms.length rcap)) := hbl3.trans (hK4.below (fun k e => by omega) hbl3.size)
    have hneA : (Value.slice ra ms.length rcap).ownBlock ≠ some w.heap.size := fun e => by have := (hown.lt _ e).1; omega
    have hneR : (Value.slice ra ms.length rcap).ownBlock ≠ some (w.heap.size + 1) := fun e => by have := (hown.lt _ e).1; omega
    have hS4 := Snaps_own hsS hK4 hneA
    have hz4 := hK4.size
    have HR4 := Lib.hid hR4
    have HB4 := Lib.hid hb4
    have HNR := Lib.hid hneR
    have HA4 := Lib.hid hA4
    have HNX := Lib.hid (HNEXT.out HCC.out (.slice ra ms.length rcap) _ hS4)
    clear hA3 hR3 hown hbl3 hb3 x0 x1 x2 x3 x4 x5 x6 fa hA4 hR4 hb4 hneA hneR hS4 hsS hK4
    go_upto_region 5 with (fail)
    generalize ((w3.setCell ⟨w.heap.size, 3, none⟩ (.int .i64 z)).setCell ⟨w.heap.size, 6, none⟩ (.slice ra ms.length rcap)) = w4 at *
    obtain ⟨x0, x1, x2, x3, x4, x5, x6⟩ := cells7 HA4.out
    go_wp2_with fail
    refine HNX.out.mono ?_
    rintro e w6 ⟨sv', rfl, hS6, hb6, hsv⟩
    have hR6 := later hb6 HR4.out
    have hbl6 := below_on HB4.out hb6
    obtain ⟨⟨nv, nk, ns, nz, nb, nq, nl⟩, nc⟩ := WM
    have HS6 := Lib.hid hS6
    have HSV := Lib.hid hsv
    clear hsv
    obtain ⟨na, ncap, rfl, _⟩ := hS6
    simp only [Man.val]
    have fb := frozen_of_heap hR6
    obtain ⟨q0, q1, q2, q3, q4, q5, q6⟩ := cells7 hR6
    have HR6 := Lib.hid hR6
    have HB6 := Lib.hid hbl6
    clear hR6 hbl6 hb6 x0 x1 x2 x3 x4 x5 x6 y0 y1 y2 y3 y4 y5 y6 fa3
    go_wp2
    obtain ⟨g1, g2⟩ := seven HR6.out (.string nv) (.int .u64 nk) (.int .i64 ns) (.int .i64 nz) (.string nb) (.int .i64 nq) (.slice na nl.length ncap)
    refine leaveB (res22 g1 rfl rfl) ?_
    have hb := below_seven HB6.out (w.heap.size + 1) (by omega) (.string nv) (.int .u64 nk) (.int .i64 ns) (.int .i64 nz) (.string nb) (.int .i64 nq) (.slice na nl.length ncap)
    refine ⟨_, rfl, ?_, hb⟩
    rcases HSV.out with hsv | hsv
    · refine Snaps_own HS6.out g2 ?_
      rw [hsv]
      exact HNR.out
    · exact snaps_none hsv
  · have hcf : (c != 0) = true := by simp [h0]
    obtain ⟨y0, y1, y2, y3, y4, y5, y6⟩ := cells7 hR2
    have fb := frozen_of_heap hR2
    clear hA2 hR2 hb2 hbl2 hS2 hc
    go_wp2
    obtain ⟨g1, g2⟩ := seven HR2.out (.string ⟨#[]⟩) (.int .u64 0) (.int .i64 0) (.int .i64 0) (.string ⟨#[]⟩) (.int .i64 0) (.slice none 0 0)
    refine leaveB (res22 g1 rfl rfl) ?_
    rw [HBAD.out c HCC.out h0]
    exact ⟨_, rfl, snaps_nil _, below_seven HBL2.out (w.heap.size + 1) (by omega) _ _ _ _ _ _ _⟩

set_option maxHeartbeats 4000000 in
set_option maxRecDepth 100000 in
theorem rresize_any (m : Man) (sv : Value) (z : Int) (w : World) (hf : Fits m) (hS : SnapsAt w sv m.snaps) :
    Calls Try.prog 23 #[m.val sv, .int .i64 z] w (ManPost (resizeM m z) w) := by
  have HC : Hid (∀ W, SnapsAt W sv m.snaps → Calls Try.prog 16 #[m.val sv] W fun e w' => e = .returned (.int .i64 (chk m)) ∧ Below W.heap.size W w') := fun W hW => rcheck_any m sv W hf hW
  have HC2 : Hid (∀ W, SnapsAt W sv m.snaps → Calls Try.prog 16 #[(m.sized z).up.val sv] W fun e w' => e = .returned (.int .i64 (chk (m.sized z).up)) ∧ Below W.heap.size W w') := fun W hW => rcheck_any (m.sized z).up sv W ⟨hf.vol, hf.bvol, hf.len, hf.names⟩ hW
  have HBAD : Hid (∀ c, chk m = c → c ≠ 0 → resizeM m z = (Man.zero, c)) := fun c hc h => by unfold resizeM; rw [hc, if_pos h]
  have HBAD2 : Hid (∀ c, chk m = 0 → chk (m.sized z).up = c → c ≠ 0 → resizeM m z = (Man.zero, c)) := fun c hc hc2 h => by unfold resizeM; rw [hc, if_neg (by simp)]; unfold turned; rw [hc2, if_neg h]
  have HGOOD : Hid (chk m = 0 → chk (m.sized z).up = 0 → resizeM m z = ((m.sized z).up, 0)) := fun hc hc2 => by unfold resizeM; rw [hc, if_neg (by simp)]; unfold turned; rw [hc2, if_pos rfl]
  have HSER : Hid (chk m = 0 → 0 ≤ m.serial ∧ m.serial < 1099511627776) := fun hc => (chk_good hc).serial
  generalize resizeM m z = WM at *
  obtain ⟨c2, hc2⟩ : ∃ c2, chk (m.sized z).up = c2 := ⟨_, rfl⟩
  obtain ⟨c, hc⟩ : ∃ c, chk m = c := ⟨_, rfl⟩
  rw [hc] at HC HBAD HBAD2 HGOOD HSER
  rw [hc2] at HC2 HBAD2 HGOOD
  clear hc hc2
  obtain ⟨v, key, serial, size, bv, bs, ms⟩ := m
  simp only [Man.val, Man.sized, Man.up] at *
  have HSS := Lib.hid hS
  obtain ⟨sa, scap, rfl, _⟩ := hS
  obtain ⟨W1, hW1⟩ : ∃ W0, W0 = (w.alloc (.cells #[.string v, .int .u64 key, .int .i64 serial, .int .i64 size, .string bv, .int .i64 bs, .slice sa ms.length scap] 35)).alloc (.cells #[.string ⟨#[]⟩, .int .u64 0, .int .i64 0, .int .i64 0, .string ⟨#[]⟩, .int .i64 0, .slice none 0 0] 35) := ⟨_, rfl⟩
  obtain ⟨hA1, hR1, hb1, hz1⟩ := two_new w #[.string v, .int .u64 key, .int .i64 serial, .int .i64 size, .string bv, .int .i64 bs, .slice sa ms.length scap] #[.string ⟨#[]⟩, .int .u64 0, .int .i64 0, .int .i64 0, .string ⟨#[]⟩, .int .i64 0, .slice none 0 0] 35 35
  rw [← hW1] at hA1 hR1 hb1 hz1
  have HW1 := Lib.hid hW1
  have HA1 := Lib.hid hA1
  have HR1 := Lib.hid hR1
  have HBL1 := Lib.hid hb1
  have HS1 := Lib.hid (Snaps_later hb1 HSS.out)
  have HZ1 := Lib.hid hz1
  clear hW1 hA1 hR1 hb1 hz1 hf
  go_enter Try.func23, Try.ntmps23
  go_wp2_with fail
  rw [← HW1.out]
  refine (HC.out W1 HS1.out).mono ?_
  rintro e w2 ⟨rfl, hb2⟩
  have hA2 := later hb2 HA1.out
  have hR2 := later hb2 HR1.out
  have hbl2 := below_on HBL1.out hb2
  have hz2 := hb2.size
  rw [HZ1.out] at hz2
  have hS2 := Snaps_later hb2 HS1.out
  have HA2 := Lib.hid hA2
  have HR2 := Lib.hid hR2
  have HBL2 := Lib.hid hbl2
  have HS2 := Lib.hid hS2
  by_cases h0 : c = 0
  · subst h0
    obtain ⟨x0, x1, x2, x3, x4, x5, x6⟩ := cells7 hA2
    have fa := frozen_of_heap hA2
    obtain ⟨hs0, hs1⟩ := HSER.out rfl
    have hK4 : KeepsBut (fun k => k = w.heap.size) w2 ((w2.setCell ⟨w.heap.size, 2, none⟩ (.int .i64 (serial + 1))).setCell ⟨w.heap.size, 3, none⟩ (.int .i64 z)) :=
      (KeepsBut.setCell (p := ⟨w.heap.size, 2, none⟩) w2 (X := fun k => k = w.heap.size) rfl _).trans (KeepsBut.setCell (p := ⟨w.heap.size, 3, none⟩) _ (X := fun k => k = w.heap.size) rfl _)
    have hA4 : ((w2.setCell ⟨w.heap.size, 2, none⟩ (.int .i64 (serial + 1))).setCell ⟨w.heap.size, 3, none⟩ (.int .i64 z)).heap[w.heap.size]? = some (.cells #[.string v, .int .u64 key, .int .i64 (serial + 1), .int .i64 z, .string bv, .int .i64 bs, .slice sa ms.length scap] 35 (0, 0)) :=
      heap_setCell_same _ w.heap.size 3 _ 35 _ (heap_setCell_same w2 w.heap.size 2 _ 35 _ hA2)
    have hR4 := keeps_at hK4 hR2 (by omega)
    have hb4 : Below w.heap.size w ((w2.setCell ⟨w.heap.size, 2, none⟩ (.int .i64 (serial + 1))).setCell ⟨w.heap.size, 3, none⟩ (.int .i64 z)) := hbl2.trans (hK4.below (fun k e => by omega) hbl2.size)
    have hS4 := Snaps_later hb4 HSS.out
    have hz4 := hK4.size
    have HR4 := Lib.hid hR4
    have HB4 := Lib.hid hb4
    have HA4 := Lib.hid hA4
    have HS4 := Lib.hid hS4
    clear hA2 hR2 hb2 hbl2 hS2 hA4 hR4 hb4 hS4 hK4
    go_upto_region 6 with (fail)
    generalize ((w2.setCell ⟨w.heap.size, 2, none⟩ (.int .i64 (serial + 1))).setCell ⟨w.heap.size, 3, none⟩ (.int .i64 z)) = w4 at *
    clear x0 x1 x2 x3 x4 x5 x6 fa
    obtain ⟨x0, x1, x2, x3, x4, x5, x6⟩ := cells7 HA4.out
    go_wp2_with fail
    refine (HC2.out w4 HS4.out).mono ?_
    rintro e w6 ⟨rfl, hb6⟩
    have hA6 := later hb6 HA4.out
    have hR6 := later hb6 HR4.out
    have hbl6 := below_on HB4.out hb6
    have fb := frozen_of_heap hR6
    obtain ⟨q0, q1, q2, q3, q4, q5, q6⟩ := cells7 hR6
    obtain ⟨y0, y1, y2, y3, y4, y5, y6⟩ := cells7 hA6
    have HR6 := Lib.hid hR6
    have HB6 := Lib.hid hbl6
    clear hR6 hbl6 hb6 hA6 x0 x1 x2 x3 x4 x5 x6
    by_cases h2 : c2 = 0
    · subst h2
      go_wp2
      obtain ⟨g1, g2⟩ := seven HR6.out (.string v) (.int .u64 key) (.int .i64 (serial + 1)) (.int .i64 z) (.string bv) (.int .i64 bs) (.slice sa ms.length scap)
      refine leaveB (res23 g1 rfl rfl) ?_
      have hb := below_seven HB6.out (w.heap.size + 1) (by omega) (.string v) (.int .u64 key) (.int .i64 (serial + 1)) (.int .i64 z) (.string bv) (.int .i64 bs) (.slice sa ms.length scap)
      rw [HGOOD.out True.intro True.intro]
      exact ⟨_, rfl, Snaps_later hb HSS.out, hb⟩
    · have hcf : (c2 != 0) = true := by simp [h2]
      go_wp2
      obtain ⟨g1, g2⟩ := seven HR6.out (.string ⟨#[]⟩) (.int .u64 0) (.int .i64 0) (.int .i64 0) (.string ⟨#[]⟩) (.int .i64 0) (.slice none 0 0)
      refine leaveB (res23 g1 rfl rfl) ?_
      rw [HBAD2.out c2 True.intro rfl h2]
      exact ⟨_, rfl, snaps_nil _, below_seven HB6.out (w.heap.size + 1) (by omega) _ _ _ _ _ _ _⟩
  · have hcf : (c != 0) = true := by simp [h0]
    obtain ⟨y0, y1, y2, y3, y4, y5, y6⟩ := cells7 hR2
    have fb := frozen_of_heap hR2
    clear hA2 hR2 hb2 hbl2 hS2
    go_wp2
    obtain ⟨g1, g2⟩ := seven HR2.out (.string ⟨#[]⟩) (.int .u64 0) (.int .i64 0) (.int .i64 0) (.string ⟨#[]⟩) (.int .i64 0) (.slice none 0 0)
    refine leaveB (res23 g1 rfl rfl) ?_
    rw [HBAD.out c rfl h0]
    exact ⟨_, rfl, snaps_nil _, below_seven HBL2.out (w.heap.size + 1) (by omega) _ _ _ _ _ _ _⟩
end Go.Proofs.Ytmkcphelmgkipaa
