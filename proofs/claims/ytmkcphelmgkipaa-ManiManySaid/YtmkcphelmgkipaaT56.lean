import Derived.Test.YtmkcphelmgkipaaT55
import Derived.Deep.AppendLies
import Derived.Deep.Cut
import Derived.Outline
set_option linter.unusedVariables false
set_option linter.unusedSimpArgs false
namespace Go.Proofs.Ytmkcphelmgkipaa
open Go.RowKit
attribute [local go_sem ↓] Go.wp_at_zero Go.wp_at_succ

theorem Snaps_own {w w' : World} {sv : Value} {l : List Snp} {b : Nat} (h : SnapsAt w sv l) (hk : KeepsBut (fun k => k = b) w w') (hb : sv.ownBlock ≠ some b) : SnapsAt w' sv l := by
  obtain ⟨a, c, e, hc⟩ := h
  refine ⟨a, c, e, fun i hi => ?_⟩
  obtain ⟨b', off, ha, h0, h1, h2⟩ := hc i hi
  have hlt := World.block_lt_of_cell? _ _ h0
  have hne : b' ≠ b := fun e' => hb (by rw [e, ha, e']; rfl)
  exact ⟨b', off, ha, (hk.cell (p := ⟨b', off + i * 3, none⟩) hlt hne).trans h0, (hk.cell (p := ⟨b', off + i * 3 + 1, none⟩) hlt hne).trans h1, (hk.cell (p := ⟨b', off + i * 3 + 2, none⟩) hlt hne).trans h2⟩

/-- As ManPost, and the snapshots lie in new memory. -/
def FreshPost (l : Man × Int) (w : World) (e : Ending) (w' : World) : Prop :=
  ∃ sv, e = .returned (.tuple #[l.1.val sv, .int .i64 l.2]) ∧ SnapsAt w' sv l.1.snaps ∧ Below w.heap.size w w' ∧ (l.1.snaps = [] ∨ ∀ k, sv.ownBlock = some k → w.heap.size ≤ k)

theorem turned_zero (c : Int) (h : c ≠ 0) (m : Man) (l : List Snp) (hc : chk m = c) : withM m l = (Man.zero, c) := by
  unfold withM
  rw [hc, if_pos h]

set_option maxHeartbeats 4000000 in
set_option maxRecDepth 100000 in
theorem with_new (m : Man) (sv : Value) (l : List Snp) (lv : Value) (w : World) (hf : Fits m) (hS : SnapsAt w sv m.snaps) (hL : SnapsAt w lv l) (hm : m.snaps.length ≤ 1000) (hl : l.length ≤ 1000)
    (hlf : ∀ x ∈ l, x.name.size ≤ 140737488351232) :
    Calls Try.prog 19 #[m.val sv, lv] w (FreshPost (withM m l) w) := by
  have HC : Hid (∀ W, SnapsAt W sv m.snaps → Calls Try.prog 33 #[m.val sv] W fun e w' => e = .returned (.int .i64 (chk m)) ∧ Below W.heap.size W w') := fun W hW => check_any m sv W hf hW
  have HCL : Hid (∀ W, SnapsAt W sv m.snaps → Calls Try.prog 47 #[sv] W (ClonePost m.snaps W)) := fun W hW => clone_any m.snaps sv W hW (by omega)
  have HBAD : Hid (∀ c, chk m = c → c ≠ 0 → withM m l = (Man.zero, c)) := fun c hc h => turned_zero c h m l hc
  have HDUP : Hid (chk m = 0 → addL m.snaps l = none → withM m l = (Man.zero, 16)) := fun hc h => by
    unfold withM
    rw [hc, if_neg (by simp)]
    rw [((add_with l m.snaps m.snaps (List.Perm.refl _)).1).1 h]
  have HNEXT : Hid (chk m = 0 → ∀ a b sq W, addL m.snaps l = some a → b.Perm a → Rising b → SnapsAt W sq b → Calls Try.prog 52 #[(m.with b).val sq] W (NextPost (withM m l) sq W)) := fun hc a b sq W ha hp hr hW => by
    cases ht : withL m.snaps l with
    | none => rw [((add_with l m.snaps m.snaps (List.Perm.refl _)).1).2 ht] at ha; cases ha
    | some t =>
      have hb : b = t := sort_with (good_strict hc) ha ht hp hr
      have hw : withM m l = turned (m.with t).up := by unfold withM; rw [hc, if_neg (by simp), ht]
      rw [hw, ← hb]
      have hg := (chk_good hc).serial
      refine next_sv (m.with b) sq W (with_fits hf hlf (by omega) ?_) hW (by show -9223372036854775808 ≤ m.serial; omega) (by show m.serial < 9223372036854775807; omega)
      rw [addL_eq _ _ _ ha] at hp
      exact hp
  generalize withM m l = WM at *
  obtain ⟨v, key, serial, size, bv, bs, ms⟩ := m
  simp only [Man.val, Man.with] at *
  have HSS := Lib.hid hS
  have HLS := Lib.hid hL
  obtain ⟨sa, scap, rfl, _⟩ := hS
  obtain ⟨la, lcap, rfl, hlc⟩ := hL
  have HLC := Lib.hid hlc
  obtain ⟨W1, hW1⟩ : ∃ W0, W0 = (w.alloc (.cells #[.string v, .int .u64 key, .int .i64 serial, .int .i64 size, .string bv, .int .i64 bs, .slice sa ms.length scap] 29)).alloc (.cells #[.string ⟨#[]⟩, .int .u64 0, .int .i64 0, .int .i64 0, .string ⟨#[]⟩, .int .i64 0, .slice none 0 0] 29) := ⟨_, rfl⟩
  obtain ⟨hA1, hR1, hb1, hz1⟩ := two_new w #[.string v, .int .u64 key, .int .i64 serial, .int .i64 size, .string bv, .int .i64 bs, .slice sa ms.length scap] #[.string ⟨#[]⟩, .int .u64 0, .int .i64 0, .int .i64 0, .string ⟨#[]⟩, .int .i64 0, .slice none 0 0] 29 29
  rw [← hW1] at hA1 hR1 hb1 hz1
  have HW1 := Lib.hid hW1
  have HA1 := Lib.hid hA1
  have HR1 := Lib.hid hR1
  have HBL1 := Lib.hid hb1
  have HS1 := Lib.hid (Snaps_later hb1 HSS.out)
  have HZ1 := Lib.hid hz1
  have HHF := Lib.hid hf
  clear hW1 hA1 hR1 hb1 hz1 hlc hf hlf
  obtain ⟨i0, hi, hy0, hy1, hy2⟩ := info_parts Try.info56x
  go_enter Try.func19, Try.ntmps19
  go_wp2_with fail
  rw [← HW1.out]
  refine (HC.out W1 HS1.out).mono ?_
  rintro e w2 ⟨rfl, hb2⟩
  have hA2 := later hb2 HA1.out
  have hR2 := later hb2 HR1.out
  have hbl2 := below_on HBL1.out hb2
  have hz2 := hb2.size
  rw [HZ1.out] at hz2
  have hS2 := Snaps_later hb2 HS1.out
  obtain ⟨c, hc⟩ : ∃ c, chk ⟨v, key, serial, size, bv, bs, ms⟩ = c := ⟨_, rfl⟩
  rw [hc]
  have HCC := Lib.hid hc
  have HA2 := Lib.hid hA2
  have HR2 := Lib.hid hR2
  have HBL2 := Lib.hid hbl2
  have HS2 := Lib.hid hS2
  by_cases h0 : c = 0
  · subst h0
    obtain ⟨x0, x1, x2, x3, x4, x5, x6⟩ := cells7 hA2
    have fa := frozen_of_heap hA2
    clear hA2 hR2 hb2 hbl2 hS2 hc
    go_wp2_with fail
    refine (HCL.out w2 HS2.out).mono ?_
    rintro e w3 ⟨sl, rfl, hown, hb3⟩
    have hA3 := later hb3 HA2.out
    have hR3 := later hb3 HR2.out
    have hbl3 := below_on HBL2.out hb3
    have hz3 := hb3.size
    have hown := own_base hown (show w.heap.size + 2 ≤ w2.heap.size by omega)
    obtain ⟨y0, y1, y2, y3, y4, y5, y6⟩ := cells7 hA3
    have fa3 := frozen_of_heap hA3
    obtain ⟨ra, rcap, rfl⟩ := owns_slice hown
    have hA4 : (w3.setCell ⟨w.heap.size, 6, none⟩ (.slice ra ms.length rcap)).heap[w.heap.size]? = some (.cells #[.string v, .int .u64 key, .int .i64 serial, .int .i64 size, .string bv, .int .i64 bs, .slice ra ms.length rcap] 29 (0, 0)) := heap_setCell_same w3 w.heap.size 6 _ 29 _ hA3
    have hR4 : (w3.setCell ⟨w.heap.size, 6, none⟩ (.slice ra ms.length rcap)).heap[w.heap.size + 1]? = some (.cells #[.string ⟨#[]⟩, .int .u64 0, .int .i64 0, .int .i64 0, .string ⟨#[]⟩, .int .i64 0, .slice none 0 0] 29 (0, 0)) := by rw [heap_setCell_other _ _ _ _ (by show w.heap.size + 1 ≠ w.heap.size; omega)]; exact hR3
    have hO4 : (w3.setCell ⟨w.heap.size, 6, none⟩ (.slice ra ms.length rcap)).ownsRow (w.heap.size + 2) 56 3 (.slice ra ms.length rcap) ms.length (rowVals ms) := own_keeps hown fun k hk => heap_setCell_other _ _ _ _ (by have := (hown.lt k hk).1; show k ≠ w.heap.size; omega)
    have hb4 : Below w.heap.size w (w3.setCell ⟨w.heap.size, 6, none⟩ (.slice ra ms.length rcap)) := hbl3.setCell (Nat.le_refl _) _
    have hz4 : w.heap.size + 2 ≤ (w3.setCell ⟨w.heap.size, 6, none⟩ (.slice ra ms.length rcap)).heap.size := by rw [World.size_setCell]; omega
    have HA4 := Lib.hid hA4
    have HR4 := Lib.hid hR4
    have HO4 := Lib.hid hO4
    have HB4 := Lib.hid hb4
    have HZ4 := Lib.hid hz4
    clear hA4 hR4 hO4 hb4 hz4 hA3 hR3 hown hbl3 hb3 x0 x1 x2 x3 x4 x5 x6 fa
    have hA3 := trivial
    go_wp2_with fail
    go_loopw [23] (fun i wr => ∃ (k : Nat) (sl : Value) (acc : List Snp), i = .int .i64 k ∧ k ≤ l.length ∧ acc.length ≤ ms.length + k ∧ Hid (wr.heap[w.heap.size]? = some (.cells #[.string v, .int .u64 key, .int .i64 serial, .int .i64 size, .string bv, .int .i64 bs, sl] 29 (0, 0))) ∧ Hid (wr.heap[w.heap.size + 1]? = some (.cells #[.string ⟨#[]⟩, .int .u64 0, .int .i64 0, .int .i64 0, .string ⟨#[]⟩, .int .i64 0, .slice none 0 0] 29 (0, 0))) ∧ Hid (wr.ownsRow (w.heap.size + 2) 56 3 sl acc.length (rowVals acc)) ∧ Hid (Below w.heap.size w wr) ∧ Hid (w.heap.size + 2 ≤ wr.heap.size) ∧ Hid (addL ms l = addL acc (l.drop k))) (fun i _ => l.length - (intOf i).toNat)
    case atStart => exact ⟨0, _, ms, rfl, by omega, by omega, HA4.out, HR4.out, HO4.out, HB4.out, HZ4.out, rfl⟩
    case round =>
      clear y0 y1 y2 y3 y4 y5 y6 fa3 hA3 hz3 hz2
      obtain ⟨k, sl, acc, rfl, hkl, hacc, HAr, HRr, HOr, HBr, HZr, HADr⟩ := hrel
      by_cases hlt : k < l.length
      · obtain ⟨b, off, rfl, hc0, hc1, hc2⟩ := HLC.out k hlt
        have hbl := HBr.out
        have c0 := (hbl.cell (p := ⟨b, off + k * 3, none⟩) (World.block_lt_of_cell? _ _ hc0)).trans hc0
        have c1 := (hbl.cell (p := ⟨b, off + k * 3 + 1, none⟩) (World.block_lt_of_cell? _ _ hc1)).trans hc1
        have c2 := (hbl.cell (p := ⟨b, off + k * 3 + 2, none⟩) (World.block_lt_of_cell? _ _ hc2)).trans hc2
        have hk0 : (0 : Int) ≤ (k : Int) := Int.natCast_nonneg _
        have hk1 : (k : Int) < (l.length : Int) := by omega
        have hstep := addL_step (acc := acc) hlt
        obtain ⟨x, hx⟩ : ∃ x, x = l.getD k Snp.zero := ⟨_, rfl⟩
        rw [← hx] at c0 c1 c2 hstep
        obtain ⟨ra', rcap', rfl⟩ := owns_slice HOr.out
        have hS := snaps_of_rowE HOr.out
        obtain ⟨hX, hbx, hzx⟩ := one_new wr #[.string x.name, .int .i64 x.seq, .int .i64 x.upto] 56
        obtain ⟨wx, hwx⟩ : ∃ wx, wx = wr.alloc (.cells #[.string x.name, .int .i64 x.seq, .int .i64 x.upto] 56) := ⟨_, rfl⟩
        rw [← hwx] at hX hbx hzx
        have HPL := Lib.hid (place_any acc (.slice ra' acc.length rcap') x.name wx (Snaps_later hbx hS) (by omega))
        rw [fnd_any acc x.name] at HPL
        generalize fndI acc x.name = fi at HPL
        generalize acc.any (isN x.name) = fb at HPL hstep
        have hbx' : (wr.alloc (.cells #[.string x.name, .int .i64 x.seq, .int .i64 x.upto] 56)).cell? ⟨w.heap.size, 6, none⟩ = some (.slice ra' acc.length rcap') := by
          rw [← hwx]; exact (cells7 (later hbx HAr.out)).2.2.2.2.2.2
        have hAx := later hbx HAr.out
        have hRx := later hbx HRr.out
        have hOx := own_later HOr.out hbx
        have hblx := below_on HBr.out hbx
        have hzr := HZr.out
        have HWX := Lib.hid hwx
        have HX := Lib.hid hX
        have HAX := Lib.hid hAx
        have HRX := Lib.hid hRx
        have HOX := Lib.hid hOx
        have HBX := Lib.hid hblx
        have HST := Lib.hid hstep
        have HXX := Lib.hid hx
        clear hwx hX hbx hzx hAx hRx hOx hblx hstep hbl hc0 hc1 hc2 hx hS
        go_wp2_with fail
        rw [← HWX.out]
        refine HPL.out.mono ?_
        rintro e w5 ⟨rfl, hb5⟩
        have hX5 := later hb5 HX.out
        have hA5 := later hb5 HAX.out
        have hR5 := later hb5 HRX.out
        have hO5 := own_later HOX.out hb5
        have hbl5 := below_on HBX.out hb5
        have hz5 : wr.heap.size + 1 ≤ w5.heap.size := by have := hb5.size; rw [HWX.out] at this; simpa using this
        clear hbx' c0 c1 c2
        cases fb with
        | true =>
          have hfound : addL ms l = none := by rw [HADr.out, HST.out]; rfl
          obtain ⟨y0, y1, y2, y3, y4, y5, y6⟩ := cells7 hR5
          have fb := frozen_of_heap hR5
          have HR5 := Lib.hid hR5
          have HB5 := Lib.hid hbl5
          have HFO := Lib.hid hfound
          clear hX5 hA5 hR5 hO5 hb5 hbl5 hfound
          go_wp2
          obtain ⟨g1, g2⟩ := seven HR5.out (.string ⟨#[]⟩) (.int .u64 0) (.int .i64 0) (.int .i64 0) (.string ⟨#[]⟩) (.int .i64 0) (.slice none 0 0)
          refine leaveB (res19 g1 rfl rfl) ?_
          rw [HDUP.out HCC.out HFO.out]
          exact ⟨_, rfl, snaps_nil _, below_seven HB5.out (w.heap.size + 1) (by omega) _ _ _ _ _ _ _, .inl rfl⟩
        | false =>
          obtain ⟨y0, y1, y2, y3, y4, y5, y6⟩ := cells7 hA5
          obtain ⟨x0, x1, x2⟩ := cells3 hX5
          have hadd : addL ms l = addL (acc ++ [x]) (l.drop (k + 1)) := by rw [HADr.out, HST.out]; rfl
          have hrow : rowVals acc ++ [.string x.name, .int .i64 x.seq, .int .i64 x.upto] = rowVals (acc ++ [x]) := by rw [rowVals_append]; rfl
          have hmx : acc.length + 1 ≤ maxLen := by unfold maxLen; omega
          have HMX := Lib.hid hmx
          have HROW := Lib.hid hrow
          have HADD := Lib.hid hadd
          have HA5 := Lib.hid hA5
          have HR5 := Lib.hid hR5
          have HO5 := Lib.hid hO5
          have HB5 := Lib.hid hbl5
          have f5 := frozen_of_heap hA5
          have HF5 := Lib.hid f5
          have hneA : ∀ o, o = (Value.slice ra' acc.length rcap').ownBlock → o ≠ some w.heap.size := fun o ho e => by rw [ho] at e; have := (HO5.out.lt _ e).1; omega
          have hneR : ∀ o, o = (Value.slice ra' acc.length rcap').ownBlock → o ≠ some (w.heap.size + 1) := fun o ho e => by rw [ho] at e; have := (HO5.out.lt _ e).1; omega
          clear hX5 hA5 hR5 hO5 hb5 hbl5 hadd hrow hmx f5
          go_wp2_with (at_builtin; refine wpList_append_lies _ rfl _ _ 27 rfl (w.heap.size + 2) 56 i0 _ 3 32 Try.underlying27 hi hy0 hy1 hy2 rfl (by omega) (.slice ra' acc.length rcap') acc.length (rowVals acc) rfl (HO5.out.alloc _) ⟨w5.heap.size, 0, none⟩ 1 1 [.string x.name, .int .i64 x.seq, .int .i64 x.upto] rfl rfl (World.news_of_block (cs := #[.string x.name, .int .i64 x.seq, .int .i64 x.upto]) (t := 56) (fr := (0, 0)) (heap_alloc_new w5 _)) (by simp [Value.oneCell']) (by omega) HMX.out (by omega) (by simp; omega) (w5.heap.size + 1) (by simp) ?_; intro gg cap' w6 hown6 hgrow hat hlt6; have hA6 := grown_at hgrow HA5.out (hneA _ rfl); have hA66 := (cells7 hA6).2.2.2.2.2.2; have fA6 := frozen_of_heap hA6; have HA6 := Lib.hid hA6; have HG6 := Lib.hid hgrow; have HOW6 := Lib.hid hown6; have HLT6 := Lib.hid hlt6; clear y0 y1 y2 y3 y4 y5 y6 x0 x1 x2 hA6 hgrow hown6 hat hlt6)
          have hrA := heap_setCell_same w6 w.heap.size 6 _ 29 (.slice (some ⟨gg, 0, none⟩) (acc.length + 1) cap') HA6.out
          have hrR := (heap_setCell_other w6 ⟨w.heap.size, 6, none⟩ (w.heap.size + 1) (.slice (some ⟨gg, 0, none⟩) (acc.length + 1) cap') (by show w.heap.size + 1 ≠ w.heap.size; omega)).trans (grown_at HG6.out HR5.out (hneR _ rfl))
          have hrO : (w6.setCell ⟨w.heap.size, 6, none⟩ (.slice (some ⟨gg, 0, none⟩) (acc.length + 1) cap')).ownsRow (w.heap.size + 2) 56 3 (.slice (some ⟨gg, 0, none⟩) (acc.length + 1) cap') (acc ++ [x]).length (rowVals (acc ++ [x])) := by
            rw [← HROW.out, List.length_append]
            exact own_keeps HOW6.out fun k hk => heap_setCell_other _ _ _ _ (by have := (HOW6.out.lt k hk).1; show k ≠ w.heap.size; omega)
          have hrB : Below w.heap.size w (w6.setCell ⟨w.heap.size, 6, none⟩ (.slice (some ⟨gg, 0, none⟩) (acc.length + 1) cap')) :=
            (below_grown HB5.out HB5.out.size HG6.out (fun k hk => by have := (HO5.out.lt k hk).1; omega)).setCell (Nat.le_refl _) _
          have hrZ : w.heap.size + 2 ≤ (w6.setCell ⟨w.heap.size, 6, none⟩ (.slice (some ⟨gg, 0, none⟩) (acc.length + 1) cap')).heap.size := by
            rw [World.size_setCell]; have := HG6.out.size; simp at this; omega
          have QA := Lib.hid hrA
          have QR := Lib.hid hrR
          have QO := Lib.hid hrO
          have QB := Lib.hid hrB
          have QZ := Lib.hid hrZ
          clear hrA hrR hrO hrB hrZ
          go_roundw
          case rel => exact ⟨k + 1, _, acc ++ [x], by go_num, by omega, by simp; omega, QA, QR, QO, QB, QZ, HADD⟩
          case measure => simp [intOf]; omega
      · obtain rfl : k = l.length := by omega
        have hall : addL ms l = some acc := by rw [HADr.out, List.drop_length]; rfl
        have HALL := Lib.hid hall
        obtain ⟨ra', rcap', rfl⟩ := owns_slice HOr.out
        have HSORT := Lib.hid (sort_own _ acc _ wr HOr.out (by omega))
        obtain ⟨y0, y1, y2, y3, y4, y5, y6⟩ := cells7 HAr.out
        have hneA : (Value.slice ra' acc.length rcap').ownBlock ≠ some w.heap.size := fun e => by have := (HOr.out.lt _ e).1; omega
        have hneR : (Value.slice ra' acc.length rcap').ownBlock ≠ some (w.heap.size + 1) := fun e => by have := (HOr.out.lt _ e).1; omega
        have hnlt : ∀ k, (Value.slice ra' acc.length rcap').ownBlock = some k → w.heap.size ≤ k := fun k e => by have := (HOr.out.lt _ e).1; omega
        have HNA := Lib.hid hneA
        have HNR := Lib.hid hneR
        have HNL := Lib.hid hnlt
        clear hall hneA hneR hnlt
        go_wp2_with fail
        refine HSORT.out.mono ?_
        rintro e w5 ⟨rfl, hkb, l', hp, hri, hS'⟩
        have hA5 := (hkb.block _ (World.lt_of_heap HAr.out) HNA.out).trans HAr.out
        have hR5 := (hkb.block _ (World.lt_of_heap HRr.out) HNR.out).trans HRr.out
        have hbl5 : Below w.heap.size w w5 := HBr.out.trans (hkb.below HNL.out HBr.out.size)
        have hz5 := hkb.size
        have hzr := HZr.out
        obtain ⟨x0, x1, x2, x3, x4, x5, x6⟩ := cells7 hA5
        have HNX := Lib.hid (HNEXT.out HCC.out acc l' (.slice ra' acc.length rcap') w5 HALL.out hp hri hS')
        have HR5 := Lib.hid hR5
        have HB5 := Lib.hid hbl5
        clear hkb hp hri hS' hA5 hR5 hbl5 y0 y1 y2 y3 y4 y5 y6
        go_wp2_with fail
        refine HNX.out.mono ?_
        rintro e w6 ⟨sv', rfl, hS6, hb6, hsv⟩
        have hR6 := later hb6 HR5.out
        have hbl6 := below_on HB5.out hb6
        obtain ⟨⟨nv, nk, ns, nz, nb, nq, nl⟩, nc⟩ := WM
        have HS6 := Lib.hid hS6
        have HSV := Lib.hid hsv
        clear hsv
        obtain ⟨na, ncap, rfl, _⟩ := hS6
        simp only [Man.val]
        obtain ⟨y0, y1, y2, y3, y4, y5, y6⟩ := cells7 hR6
        have fb := frozen_of_heap hR6
        have HR6 := Lib.hid hR6
        have HB6 := Lib.hid hbl6
        have hz6 := hb6.size
        clear hR6 hbl6 hb6 x0 x1 x2 x3 x4 x5 x6
        go_wp2
        obtain ⟨g1, g2⟩ := seven HR6.out (.string nv) (.int .u64 nk) (.int .i64 ns) (.int .i64 nz) (.string nb) (.int .i64 nq) (.slice na nl.length ncap)
        refine leaveB (res19 g1 rfl rfl) ?_
        have hb := below_seven HB6.out (w.heap.size + 1) (by omega) (.string nv) (.int .u64 nk) (.int .i64 ns) (.int .i64 nz) (.string nb) (.int .i64 nq) (.slice na nl.length ncap)
        rcases HSV.out with hsv | hsv
        · refine ⟨_, rfl, ?_, hb, .inr ?_⟩
          · refine Snaps_own HS6.out g2 ?_
            rw [hsv]
            exact HNR.out
          · rw [hsv]
            exact HNL.out
        · exact ⟨_, rfl, snaps_none hsv, hb, .inl hsv⟩
  · have hcf : (c != 0) = true := by simp [h0]
    obtain ⟨y0, y1, y2, y3, y4, y5, y6⟩ := cells7 hR2
    have fb := frozen_of_heap hR2
    clear hA2 hR2 hb2 hbl2 hS2 hc
    go_wp2
    obtain ⟨g1, g2⟩ := seven HR2.out (.string ⟨#[]⟩) (.int .u64 0) (.int .i64 0) (.int .i64 0) (.string ⟨#[]⟩) (.int .i64 0) (.slice none 0 0)
    refine leaveB (res19 g1 rfl rfl) ?_
    rw [HBAD.out c HCC.out h0]
    exact ⟨_, rfl, snaps_nil _, below_seven HBL2.out (w.heap.size + 1) (by omega) _ _ _ _ _ _ _, .inl rfl⟩

theorem with_any (m : Man) (sv : Value) (l : List Snp) (lv : Value) (w : World) (hf : Fits m) (hS : SnapsAt w sv m.snaps) (hL : SnapsAt w lv l) (hm : m.snaps.length ≤ 1000) (hl : l.length ≤ 1000)
    (hlf : ∀ x ∈ l, x.name.size ≤ 140737488351232) :
    Calls Try.prog 19 #[m.val sv, lv] w (ManPost (withM m l) w) :=
  (with_new m sv l lv w hf hS hL hm hl hlf).mono fun _ _ ⟨s, h1, h2, h3, _⟩ => ⟨s, h1, h2, h3⟩
end Go.Proofs.Ytmkcphelmgkipaa
