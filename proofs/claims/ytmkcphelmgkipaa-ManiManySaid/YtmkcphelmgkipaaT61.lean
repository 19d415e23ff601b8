import Derived.Test.YtmkcphelmgkipaaT60
import Derived.StillTailTactics
import Derived.Deep.Cut
set_option linter.unusedVariables false
set_option linter.unusedSimpArgs false
namespace Go.Proofs.Ytmkcphelmgkipaa
open Go.RowKit
attribute [local go_sem ↓] Go.wp_at_zero Go.wp_at_succ

/-! A snapshot less. -/

def less (l : List Snp) (i : Nat) : List Snp := l.take i ++ l.drop (i + 1)
def withoutM (m : Man) (name : ByteArray) : Man × Int :=
  if chk m ≠ 0 then (Man.zero, chk m) else match fnd m.snaps name with | none => (Man.zero, 15) | some i => turned (m.with (less m.snaps i)).up

theorem fnd_lt {l : List Snp} {name : ByteArray} {i : Nat} (h : fnd l name = some i) : i < l.length := by
  unfold fnd at h
  rw [List.findIdx?_eq_some_iff_getElem] at h
  exact h.1
theorem fndI_none {l : List Snp} {name : ByteArray} (h : fnd l name = none) : fndI l name = -1 := by unfold fndI; rw [h]
theorem fndI_some {l : List Snp} {name : ByteArray} {i : Nat} (h : fnd l name = some i) : fndI l name = i := by unfold fndI; rw [h]

theorem less_fits {m : Man} {i : Nat} (hf : Fits m) : Fits (m.with (less m.snaps i)).up := by
  refine ⟨hf.vol, hf.bvol, ?_, ?_⟩
  · show (less m.snaps i).length ≤ _
    have := hf.len
    unfold less
    rw [List.length_append, List.length_take, List.length_drop]
    omega
  · intro x hx
    rcases List.mem_append.1 (show x ∈ less m.snaps i from hx) with h | h
    · exact hf.names x (List.mem_of_mem_take h)
    · exact hf.names x (List.mem_of_mem_drop h)

theorem news_take {w : World} {ad : Addr} {cap : Nat} {l : List Snp} (h : SnapsAt w (.slice (some ad) l.length cap) l) (i : Nat) : ∀ j u, (rowVals (l.take i))[j]? = some u → w.cell? (ad.add j) = some u := by
  intro j u hj
  refine snaps_news h j u ?_
  have e : rowVals l = rowVals (l.take i) ++ rowVals (l.drop i) := by rw [← rowVals_append, List.take_append_drop]
  rw [e, List.getElem?_append_left (List.getElem?_eq_some_iff.1 hj).1]
  exact hj
theorem news_drop {w : World} {ad : Addr} {cap : Nat} {l : List Snp} (h : SnapsAt w (.slice (some ad) l.length cap) l) (i : Nat) (hi : i ≤ l.length) : ∀ j u, (rowVals (l.drop i))[j]? = some u → w.cell? ((ad.add (i * 3)).add j) = some u := by
  intro j u hj
  rw [Go.Deep.add_add]
  refine snaps_news h (i * 3 + j) u ?_
  have e : rowVals l = rowVals (l.take i) ++ rowVals (l.drop i) := by rw [← rowVals_append, List.take_append_drop]
  have el : (rowVals (l.take i)).length = i * 3 := by rw [rowVals_length, List.length_take, Nat.min_eq_left hi]
  rw [e, List.getElem?_append_right (by omega), el, Nat.add_sub_cancel_left]
  exact hj

theorem res24 {W : World} {b : Nat} {c : Int} {v0 v1 v2 v3 v4 v5 v6 : Value} {tmps : Array Value} (h : W.heap[b]? = some (.cells #[v0, v1, v2, v3, v4, v5, v6] 29 (0, 0)))
    (h2 : tmps[4]? = some (.pointer (some ⟨b, 0, none⟩))) (h3 : tmps[5]? = some (.int .i64 c)) :
    (results Try.f24 tmps).run Try.prog W = .ok (.tuple #[.agg #[v0, v1, v2, v3, v4, v5, v6], .int .i64 c]) W := by
  obtain ⟨k0, k1, k2, k3, k4, k5, k6⟩ := cells7 h
  simp [results, Try.results24, go_sem, h2, h3, k0, k1, k2, k3, k4, k5, k6]

set_option maxHeartbeats 8000000 in
set_option maxRecDepth 100000 in
theorem without_any (m : Man) (sv : Value) (name : ByteArray) (w : World) (hf : Fits m) (hS : SnapsAt w sv m.snaps) (hcap : CapOk sv m.snaps.length) (hm : m.snaps.length ≤ 1000) :
    Calls Try.prog 24 #[m.val sv, .string name] w (ManPost (withoutM m name) w) := by
  have HC : Hid (∀ W, SnapsAt W sv m.snaps → Calls Try.prog 33 #[m.val sv] W fun e w' => e = .returned (.int .i64 (chk m)) ∧ Below W.heap.size W w') := fun W hW => check_any m sv W hf hW
  have HPL : Hid (∀ W, SnapsAt W sv m.snaps → Calls Try.prog 48 #[sv, .string name] W fun e w' => e = .returned (.tuple #[.int .i64 (fndI m.snaps name), .bool (decide (0 ≤ fndI m.snaps name))]) ∧ Below W.heap.size W w') := fun W hW => place_any m.snaps sv name W hW (by omega)
  have HBAD : Hid (∀ c, chk m = c → c ≠ 0 → withoutM m name = (Man.zero, c)) := fun c hc h => by unfold withoutM; rw [hc, if_pos h]
  have HNO : Hid (chk m = 0 → fnd m.snaps name = none → withoutM m name = (Man.zero, 15)) := fun hc h => by unfold withoutM; rw [hc, if_neg (by simp), h]
  have HNEXT : Hid (∀ i, chk m = 0 → fnd m.snaps name = some i → ∀ sq W, SnapsAt W sq (less m.snaps i) → Calls Try.prog 52 #[(m.with (less m.snaps i)).val sq] W (NextPost (withoutM m name) sq W)) := fun i hc hi sq W hW => by
    have hw : withoutM m name = turned (m.with (less m.snaps i)).up := by unfold withoutM; rw [hc, if_neg (by simp), hi]
    rw [hw]
    have hg := (chk_good hc).serial
    exact next_sv (m.with (less m.snaps i)) sq W (less_fits hf) hW (by show -9223372036854775808 ≤ m.serial; omega) (by show m.serial < 9223372036854775807; omega)
  generalize withoutM m name = WM at *
  obtain ⟨v, key, serial, size, bv, bs, ms⟩ := m
  simp only [Man.val, Man.with] at *
  have HSS := Lib.hid hS
  obtain ⟨sa, scap, rfl, hnone, hcl, hcm⟩ := hcap
  obtain ⟨W1, hW1⟩ : ∃ W0, W0 = (w.alloc (.cells #[.string v, .int .u64 key, .int .i64 serial, .int .i64 size, .string bv, .int .i64 bs, .slice sa ms.length scap] 29)).alloc (.cells #[.string ⟨#[]⟩, .int .u64 0, .int .i64 0, .int .i64 0, .string ⟨#[]⟩, .int .i64 0, .slice none 0 0] 29) := ⟨_, rfl⟩
  obtain ⟨hA1, hR1, hb1, hz1⟩ := two_new w #[.string v, .int .u64 key, .int .i64 serial, .int .i64 size, .string bv, .int .i64 bs, .slice sa ms.length scap] #[.string ⟨#[]⟩, .int .u64 0, .int .i64 0, .int .i64 0, .string ⟨#[]⟩, .int .i64 0, .slice none 0 0] 29 29
  rw [← hW1] at hA1 hR1 hb1 hz1
  have HW1 := Lib.hid hW1
  have HA1 := Lib.hid hA1
  have HR1 := Lib.hid hR1
  have HBL1 := Lib.hid hb1
  have HS1 := Lib.hid (Snaps_later hb1 HSS.out)
  have HZ1 := Lib.hid hz1
  have HNN := Lib.hid hnone
  have HCM := Lib.hid hcm
  clear hW1 hA1 hR1 hb1 hz1 hf hnone hcm hS
  go_enter Try.func24, Try.ntmps24
  go_wp2_with fail
  rw [← HW1.out]
  refine (HC.out W1 HS1.out).mono ?_
  rintro e w2 ⟨rfl, hb2⟩
  have hA2 := later hb2 HA1.out
  have hR2 := later hb2 HR1.out
  have hbl2 := below_on HBL1.out hb2
  have hz2 := hb2.size
  rw [HZ1.out] at hz2
  have hS2 := Snaps_later hb2 HS1.out
  obtain ⟨c, hc⟩ : ∃ c, chk ⟨v, key, serial, size, bv, bs, ms⟩ = c := ⟨_, rfl⟩
  rw [hc]
  have HCC := Lib.hid hc
  have HA2 := Lib.hid hA2
  have HR2 := Lib.hid hR2
  have HBL2 := Lib.hid hbl2
  have HS2 := Lib.hid hS2
  by_cases h0 : c = 0
  · subst h0
    obtain ⟨x0, x1, x2, x3, x4, x5, x6⟩ := cells7 hA2
    clear hA2 hR2 hb2 hbl2 hS2 hc
    have HPL2 := HPL.out w2 HS2.out
    cases hfn : fnd ms name with
    | none =>
      rw [fndI_none hfn] at HPL2
      have HPL2 := Lib.hid HPL2
      have HFN := Lib.hid hfn
      clear hfn
      go_wp2_with fail
      refine HPL2.out.mono ?_
      rintro e w3 ⟨rfl, hb3⟩
      have hR3 := later hb3 HR2.out
      have hbl3 := below_on HBL2.out hb3
      obtain ⟨y0, y1, y2, y3, y4, y5, y6⟩ := cells7 hR3
      have fb := frozen_of_heap hR3
      have HR3 := Lib.hid hR3
      have HB3 := Lib.hid hbl3
      clear hR3 hbl3 hb3
      go_wp2
      obtain ⟨g1, g2⟩ := seven HR3.out (.string ⟨#[]⟩) (.int .u64 0) (.int .i64 0) (.int .i64 0) (.string ⟨#[]⟩) (.int .i64 0) (.slice none 0 0)
      refine leaveB (res24 g1 rfl rfl) ?_
      rw [HNO.out HCC.out HFN.out]
      exact ⟨_, rfl, snaps_nil _, below_seven HB3.out (w.heap.size + 1) (by omega) _ _ _ _ _ _ _⟩
    | some i =>
      rw [fndI_some hfn, decide_eq_true (show 0 ≤ (i : Int) by omega)] at HPL2
      have HPL2 := Lib.hid HPL2
      have hil := fnd_lt hfn
      have HFN := Lib.hid hfn
      clear hfn
      obtain ⟨b, off, hsa⟩ : ∃ b off, sa = some ⟨b, off, none⟩ := by
        obtain ⟨_, _, e, hc⟩ := HSS.out
        obtain ⟨b, off, ha, _⟩ := hc i hil
        injection e with e1
        exact ⟨b, off, e1.trans ha⟩
      subst hsa
      go_wp2_with fail
      refine HPL2.out.mono ?_
      rintro e w3 ⟨rfl, hb3⟩
      have hA3 := later hb3 HA2.out
      have hR3 := later hb3 HR2.out
      have hbl3 := below_on HBL2.out hb3
      have hS3 := Snaps_later hb3 HS2.out
      have hz3 := hb3.size
      obtain ⟨y0, y1, y2, y3, y4, y5, y6⟩ := cells7 hA3
      have HA3 := Lib.hid hA3
      have HR3 := Lib.hid hR3
      have HB3 := Lib.hid hbl3
      have HS3 := Lib.hid hS3
      clear hA3 hR3 hbl3 hS3 hb3 x0 x1 x2 x3 x4 x5 x6
      have hi0 : (0 : Int) ≤ (i : Int) := Int.natCast_nonneg _
      have hi1 : (i : Int) < (ms.length : Int) := by omega
      have hi2 : (i : Int) ≤ (scap : Int) := by omega
      have hi3 : ((i : Int) + 1) ≤ (scap : Int) := by omega
      have hi4 : ((i : Int) + 1) ≤ (ms.length : Int) := by omega
      have hi5 : (0 : Int) ≤ (i : Int) + 1 := by omega
      have hw1 : IntKind.i64.wrap ((i : Int) + 1) = (i : Int) + 1 := IntWalk.i64_in _ (by omega)
      have hn1 : ((i : Int) + 1).toNat = i + 1 := by omega
      go_wp2_with fail
      go_still_tail 9, (by kernel_rfl)
      have hmi : scap ≤ 9223372036854775807 := by have := HCM.out; unfold maxLen at this; omega
      have et : (ms.take i).length = i := by rw [List.length_take]; omega
      have ed : (ms.drop (i + 1)).length = ms.length - (i + 1) := List.length_drop
      by_cases hcj : scap = i + 1
      · have HCON : Hid (Calls Try.prog 54 #[.slice (some ⟨w3.heap.size, 0, none⟩) 2 2] (w3.alloc (.cells #[.slice (some ⟨b, off, none⟩) i (i + 1), .slice (some ⟨b, off, none⟩) (ms.length - (i + 1)) 0] 27)).drew (ConcatPost (less ms i) (w3.alloc (.cells #[.slice (some ⟨b, off, none⟩) i (i + 1), .slice (some ⟨b, off, none⟩) (ms.length - (i + 1)) 0] 27)).drew)) := by
          obtain ⟨k1, k2, _⟩ := one_new w3 #[.slice (some ⟨b, off, none⟩) i (i + 1), .slice (some ⟨b, off, none⟩) (ms.length - (i + 1)) 0] 27
          obtain ⟨k3, k4⟩ := cells2 k1
          have hS' := Snaps_later k2 HS3.out
          have hcon := concat_any (ms.take i) (ms.drop (i + 1)) ⟨b, off, none⟩ ⟨b, off, none⟩ (i + 1) 0 w3.heap.size (w3.alloc (.cells #[.slice (some ⟨b, off, none⟩) i (i + 1), .slice (some ⟨b, off, none⟩) (ms.length - (i + 1)) 0] 27)).drew
            (by rw [et]; exact k3) (by rw [ed]; exact k4) (news_take hS' i) (fun j u h => by
              have hz : ms.drop (i + 1) = [] := List.drop_eq_nil_of_le (by omega)
              rw [hz] at h; simp [rowVals] at h) (by omega) (by omega)
          exact hcon
        clear et ed
        go_wp2_with fail
        refine HCON.out.mono ?_
        rintro e w5 ⟨v5, rfl, hown, hb5⟩
        have hb35 : Below w3.heap.size w3 w5 := ⟨hb5.os, hb5.tape, hb5.output, by have := hb5.size; simp at this; omega, fun q hq => (hb5.block q (by simp; omega)).trans (Below.heap_alloc w3 _ q hq)⟩
        have hown := own_base hown (show w.heap.size + 2 ≤ _ by simp; omega)
        have hA5 := later hb35 HA3.out
        have hR5 := later hb35 HR3.out
        have hbl5 := below_on HB3.out hb35
        have hz5 := hb35.size
        have hsS := snaps_of_rowE hown
        obtain ⟨ra, rcap, rfl⟩ := owns_slice hown
        obtain ⟨q0, q1, q2, q3, q4, q5, q6⟩ := cells7 hA5
        have fa5 := frozen_of_heap hA5
        have hK4 : KeepsBut (fun k => k = w.heap.size) w5 (w5.setCell ⟨w.heap.size, 6, none⟩ (.slice ra (less ms i).length rcap)) := KeepsBut.setCell (p := ⟨w.heap.size, 6, none⟩) w5 (X := fun k => k = w.heap.size) rfl _
        have hA4 := heap_setCell_same w5 w.heap.size 6 _ 29 (.slice ra (less ms i).length rcap) hA5
        have hR4 := keeps_at hK4 hR5 (by omega)
        have hb4 : Below w.heap.size w (w5.setCell ⟨w.heap.size, 6, none⟩ (.slice ra (less ms i).length rcap)) := hbl5.trans (hK4.below (fun k e => by omega) hbl5.size)
        have hneA : (Value.slice ra (less ms i).length rcap).ownBlock ≠ some w.heap.size := fun e => by have := (hown.lt _ e).1; omega
        have hneR : (Value.slice ra (less ms i).length rcap).ownBlock ≠ some (w.heap.size + 1) := fun e => by have := (hown.lt _ e).1; omega
        have hS4 := Snaps_own hsS hK4 hneA
        have hz4 := hK4.size
        have HR4 := Lib.hid hR4
        have HB4 := Lib.hid hb4
        have HNR := Lib.hid hneR
        have HA4 := Lib.hid hA4
        have HNX := Lib.hid (HNEXT.out i HCC.out HFN.out (.slice ra (less ms i).length rcap) _ hS4)
        clear hA5 hR5 hown hbl5 hb5 hb35 y0 y1 y2 y3 y4 y5 y6 hA4 hR4 hb4 hneA hneR hS4 hsS hK4
        go_upto_region 8 with (fail)
        generalize (w5.setCell ⟨w.heap.size, 6, none⟩ (.slice ra (less ms i).length rcap)) = w4 at *
        obtain ⟨x0, x1, x2, x3, x4, x5, x6⟩ := cells7 HA4.out
        clear q0 q1 q2 q3 q4 q5 q6 fa5
        go_wp2_with fail
        refine HNX.out.mono ?_
        rintro e w6 ⟨sv', rfl, hS6, hb6, hsv⟩
        have hR6 := later hb6 HR4.out
        have hbl6 := below_on HB4.out hb6
        obtain ⟨⟨nv, nk, ns, nz, nb, nq, nl⟩, nc⟩ := WM
        have HS6 := Lib.hid hS6
        have HSV := Lib.hid hsv
        clear hsv
        obtain ⟨na, ncap, rfl, _⟩ := hS6
        simp only [Man.val]
        have fb := frozen_of_heap hR6
        obtain ⟨q0, q1, q2, q3, q4, q5, q6⟩ := cells7 hR6
        have HR6 := Lib.hid hR6
        have HB6 := Lib.hid hbl6
        clear hR6 hbl6 hb6 x0 x1 x2 x3 x4 x5 x6
        go_wp2
        obtain ⟨g1, g2⟩ := seven HR6.out (.string nv) (.int .u64 nk) (.int .i64 ns) (.int .i64 nz) (.string nb) (.int .i64 nq) (.slice na nl.length ncap)
        refine leaveB (res24 g1 rfl rfl) ?_
        have hb := below_seven HB6.out (w.heap.size + 1) (by omega) (.string nv) (.int .u64 nk) (.int .i64 ns) (.int .i64 nz) (.string nb) (.int .i64 nq) (.slice na nl.length ncap)
        refine ⟨_, rfl, ?_, hb⟩
        rcases HSV.out with hsv | hsv
        · refine Snaps_own HS6.out g2 ?_
          rw [hsv]
          exact HNR.out
        · exact snaps_none hsv
      · have HCON : Hid (Calls Try.prog 54 #[.slice (some ⟨w3.heap.size, 0, none⟩) 2 2] (w3.alloc (.cells #[.slice (some ⟨b, off, none⟩) i scap, .slice (some ⟨b, off + (i + 1) * 3, none⟩) (ms.length - (i + 1)) (scap - (i + 1))] 27)).drew (ConcatPost (less ms i) (w3.alloc (.cells #[.slice (some ⟨b, off, none⟩) i scap, .slice (some ⟨b, off + (i + 1) * 3, none⟩) (ms.length - (i + 1)) (scap - (i + 1))] 27)).drew)) := by
          obtain ⟨k1, k2, _⟩ := one_new w3 #[.slice (some ⟨b, off, none⟩) i scap, .slice (some ⟨b, off + (i + 1) * 3, none⟩) (ms.length - (i + 1)) (scap - (i + 1))] 27
          obtain ⟨k3, k4⟩ := cells2 k1
          have hS' := Snaps_later k2 HS3.out
          have hcon := concat_any (ms.take i) (ms.drop (i + 1)) ⟨b, off, none⟩ ⟨b, off + (i + 1) * 3, none⟩ scap (scap - (i + 1)) w3.heap.size (w3.alloc (.cells #[.slice (some ⟨b, off, none⟩) i scap, .slice (some ⟨b, off + (i + 1) * 3, none⟩) (ms.length - (i + 1)) (scap - (i + 1))] 27)).drew
            (by rw [et]; exact k3) (by rw [ed]; exact k4) (news_take hS' i) (by have h := news_drop hS' (i + 1) (by omega); rw [WideShapes.add_plain] at h; exact h) (by omega) (by omega)
          exact hcon
        clear et ed
        go_wp2_with fail
        refine HCON.out.mono ?_
        rintro e w5 ⟨v5, rfl, hown, hb5⟩
        have hb35 : Below w3.heap.size w3 w5 := ⟨hb5.os, hb5.tape, hb5.output, by have := hb5.size; simp at this; omega, fun q hq => (hb5.block q (by simp; omega)).trans (Below.heap_alloc w3 _ q hq)⟩
        have hown := own_base hown (show w.heap.size + 2 ≤ _ by simp; omega)
        have hA5 := later hb35 HA3.out
        have hR5 := later hb35 HR3.out
        have hbl5 := below_on HB3.out hb35
        have hz5 := hb35.size
        have hsS := snaps_of_rowE hown
        obtain ⟨ra, rcap, rfl⟩ := owns_slice hown
        obtain ⟨q0, q1, q2, q3, q4, q5, q6⟩ := cells7 hA5
        have fa5 := frozen_of_heap hA5
        have hK4 : KeepsBut (fun k => k = w.heap.size) w5 (w5.setCell ⟨w.heap.size, 6, none⟩ (.slice ra (less ms i).length rcap)) := KeepsBut.setCell (p := ⟨w.heap.size, 6, none⟩) w5 (X := fun k => k = w.heap.size) rfl _
        have hA4 := heap_setCell_same w5 w.heap.size 6 _ 29 (.slice ra (less ms i).length rcap) hA5
        have hR4 := keeps_at hK4 hR5 (by omega)
        have hb4 : Below w.heap.size w (w5.setCell ⟨w.heap.size, 6, none⟩ (.slice ra (less ms i).length rcap)) := hbl5.trans (hK4.below (fun k e => by omega) hbl5.size)
        have hneA : (Value.slice ra (less ms i).length rcap).ownBlock ≠ some w.heap.size := fun e => by have := (hown.lt _ e).1; omega
        have hneR : (Value.slice ra (less ms i).length rcap).ownBlock ≠ some (w.heap.size + 1) := fun e => by have := (hown.lt _ e).1; omega
        have hS4 := Snaps_own hsS hK4 hneA
        have hz4 := hK4.size
        have HR4 := Lib.hid hR4
        have HB4 := Lib.hid hb4
        have HNR := Lib.hid hneR
        have HA4 := Lib.hid hA4
        have HNX := Lib.hid (HNEXT.out i HCC.out HFN.out (.slice ra (less ms i).length rcap) _ hS4)
        clear hA5 hR5 hown hbl5 hb5 hb35 y0 y1 y2 y3 y4 y5 y6 hA4 hR4 hb4 hneA hneR hS4 hsS hK4
        go_upto_region 8 with (fail)
        generalize (w5.setCell ⟨w.heap.size, 6, none⟩ (.slice ra (less ms i).length rcap)) = w4 at *
        obtain ⟨x0, x1, x2, x3, x4, x5, x6⟩ := cells7 HA4.out
        clear q0 q1 q2 q3 q4 q5 q6 fa5
        go_wp2_with fail
        refine HNX.out.mono ?_
        rintro e w6 ⟨sv', rfl, hS6, hb6, hsv⟩
        have hR6 := later hb6 HR4.out
        have hbl6 := below_on HB4.out hb6
        obtain ⟨⟨nv, nk, ns, nz, nb, nq, nl⟩, nc⟩ := WM
        have HS6 := Lib.hid hS6
        have HSV := Lib.hid hsv
        clear hsv
        obtain ⟨na, ncap, rfl, _⟩ := hS6
        simp only [Man.val]
        have fb := frozen_of_heap hR6
        obtain ⟨q0, q1, q2, q3, q4, q5, q6⟩ := cells7 hR6
        have HR6 := Lib.hid hR6
        have HB6 := Lib.hid hbl6
        clear hR6 hbl6 hb6 x0 x1 x2 x3 x4 x5 x6
        go_wp2
        obtain ⟨g1, g2⟩ := seven HR6.out (.string nv) (.int .u64 nk) (.int .i64 ns) (.int .i64 nz) (.string nb) (.int .i64 nq) (.slice na nl.length ncap)
        refine leaveB (res24 g1 rfl rfl) ?_
        have hb := below_seven HB6.out (w.heap.size + 1) (by omega) (.string nv) (.int .u64 nk) (.int .i64 ns) (.int .i64 nz) (.string nb) (.int .i64 nq) (.slice na nl.length ncap)
        refine ⟨_, rfl, ?_, hb⟩
        rcases HSV.out with hsv | hsv
        · refine Snaps_own HS6.out g2 ?_
          rw [hsv]
          exact HNR.out
        · exact snaps_none hsv
  · have hcf : (c != 0) = true := by simp [h0]
    obtain ⟨y0, y1, y2, y3, y4, y5, y6⟩ := cells7 hR2
    have fb := frozen_of_heap hR2
    clear hA2 hR2 hb2 hbl2 hS2 hc
    go_wp2
    obtain ⟨g1, g2⟩ := seven HR2.out (.string ⟨#[]⟩) (.int .u64 0) (.int .i64 0) (.int .i64 0) (.string ⟨#[]⟩) (.int .i64 0) (.slice none 0 0)
    refine leaveB (res24 g1 rfl rfl) ?_
    rw [HBAD.out c HCC.out h0]
    exact ⟨_, rfl, snaps_nil _, below_seven HBL2.out (w.heap.size + 1) (by omega) _ _ _ _ _ _ _⟩
end Go.Proofs.Ytmkcphelmgkipaa
