import Derived.Test.YtmkcphelmgkipaaT24
set_option linter.unusedVariables false
set_option linter.unusedSimpArgs false
namespace Go.Proofs.Ytmkcphelmgkipaa
open Go.RowKit
attribute [local go_sem ↓] Go.wp_at_zero Go.wp_at_succ

theorem text_x (o : Nat) (T : List UInt8) (st : Option Nat) (p : List UInt8 × Option Nat) (hp : p = rd [] (rtext 64) T st) (w : World) (h : St w o (str T) st) (hs : T.length ≤ 140737488351232) :
    Calls Try.prog 29 #[.pointer (some ⟨o, 0, none⟩), .int .i64 64] w fun e w' => KeepsBut (fun k => k = o) w w' ∧ e = .returned (.string (str p.1)) ∧ St w' o (str T) p.2 := by
  have := text_st o 64 (str T) st w h (by rw [str_size]; exact hs) (by omega)
  unfold TextPost at this
  rw [str_data, ← hp] at this
  exact this

theorem int_x (o most : Nat) (T : List UInt8) (st : Option Nat) (p : Nat × Option Nat) (hp : p = rd 0 (rint most) T st) (w : World) (h : St w o (str T) st) (hs : T.length ≤ 140737488351232) (hm : most ≤ 4611686018427387904) :
    Calls Try.prog 31 #[.pointer (some ⟨o, 0, none⟩), .int .i64 most] w fun e w' => KeepsBut (fun k => k = o) w w' ∧ e = .returned (.int .i64 (p.1 : Nat)) ∧ St w' o (str T) p.2 := by
  have := int_st o most (str T) st w h (by rw [str_size]; exact hs) hm
  unfold IntPost at this
  rw [str_data, ← hp] at this
  exact this

theorem fixed_x (o : Nat) (T : List UInt8) (st : Option Nat) (p : Nat × Option Nat) (hp : p = rd 0 (rfixed 8) T st) (w : World) (h : St w o (str T) st) (hs : T.length ≤ 140737488351232) :
    Calls Try.prog 30 #[.pointer (some ⟨o, 0, none⟩), .int .i64 8] w fun e w' => KeepsBut (fun k => k = o) w w' ∧ e = .returned (.int .u64 (p.1 : Nat)) ∧ St w' o (str T) p.2 := by
  have := infixed_st o 8 (str T) st w h (by rw [str_size]; exact hs) (by omega) (by omega)
  unfold FixedPost at this
  rw [str_data, ← hp] at this
  exact this

theorem keeps_at {o b : Nat} {w w' : World} {x : Obj} (hk : KeepsBut (fun k => k = o) w w') (h : w.heap[b]? = some x) (hb : b ≠ o) : w'.heap[b]? = some x := by
  refine (hk.block b ?_ hb).trans h
  rcases Nat.lt_or_ge b w.heap.size with hl | hl
  · exact hl
  · rw [Array.getElem?_eq_none hl] at h; cases h

theorem keeps_below {o : Nat} {w w' : World} (hk : KeepsBut (fun k => k = o) w w') (ho : o ≤ w.heap.size) : Below o w w' := hk.below (fun k e => by omega) ho

def manRes (T : List UInt8) : Man × Int := if pend T = some T.length ∧ chk (pman T) = 0 then (pman T, 0) else (Man.zero, 12)

theorem World.lt_of_heap {w : World} {b : Nat} {x : Obj} (h : w.heap[b]? = some x) : b < w.heap.size := by
  rcases Nat.lt_or_ge b w.heap.size with hl | hl
  · exact hl
  · rw [Array.getElem?_eq_none hl] at h; cases h

set_option maxHeartbeats 1000000 in
set_option maxRecDepth 100000 in
theorem decode_main (s : ByteArray) (w : World) (hs : s.size ≤ 140737488351232) {A T : List UInt8} (h : opened s.data.toList = (A, 0)) (hp : Lib.hasPrefix A [77, 65, 78, 50] = true)
    (hA : 4 ≤ A.length) (hAs : A.length ≤ s.size) (hT : T = A.drop 4) :
    Calls Try.prog 8 #[.string s] w (ManPost (manRes T) w) := by
  have HO : Hid (∀ w, Calls Try.prog 26 #[.string s] w fun e w' => e = .returned (.tuple #[.string (str A), .int .i64 0]) ∧ Below w.heap.size w w') := fun w => open_is s hs h w
  have HP : Hid (∀ w, Calls Try.prog 27 #[.string (str A), .string ⟨#[77, 65, 78, 50]⟩] w fun e w' => e = .returned (.bool true) ∧ w' = w) := fun w => by
    have := Try.strings_HasPrefix (str A) ⟨#[77, 65, 78, 50]⟩ w
    rw [str_data, hp] at this
    exact this
  have hTl : T.length ≤ 140737488351232 := by rw [hT, List.length_drop]; omega
  have hAe : (str A).extract 4 (str A).size = str T := by rw [ext_end, hT, str_data]
  have hAz : (4 : Int) ≤ ((str A).size : Nat) := by rw [str_size]; omega
  have HTL := Lib.hid hTl
  have HAE := Lib.hid hAe
  clear h hp hT hAe hTl
  obtain ⟨i0, hi, hz0, hz1, hz2⟩ := info_parts Try.info56
  go_enter Try.func8, Try.ntmps8
  go_wp2_with fail
  refine (HO.out _).mono ?_
  rintro e w1 ⟨rfl, hb⟩
  have hx : w1.heap[w.heap.size]? = some (.cells #[.string ⟨#[]⟩, .int .u64 0, .int .i64 0, .int .i64 0, .string ⟨#[]⟩, .int .i64 0, .slice none 0 0] 29 (0, 0)) := by
    rw [hb.block _ (by simp)]; exact heap_alloc_new w _
  have hBo : w.heap.size < w1.heap.size := by have := hb.size; simp at this; omega
  have HB := Lib.hid (alloc_trans hb)
  have HX := Lib.hid hx
  clear hb hx
  go_wp2_with fail
  refine (HP.out _).mono ?_
  rintro e w1 ⟨rfl, rfl⟩
  go_wp2_with fail
  rw [HAE.out]
  refine (read_any _ _).mono ?_
  rintro e w2 ⟨rfl, hw2⟩
  obtain ⟨o, ho⟩ : ∃ o, o = w1.heap.size := ⟨_, rfl⟩
  have hst0 : St w2 o (str T) (some 0) := ⟨Nat.zero_le _, by rw [hw2, ho]; exact heap_alloc_new w1 _⟩
  have hK2 : Below o w1 w2 := by rw [hw2, ho]; exact (Below.refl _ w1).alloc (Nat.le_refl _) _
  have hs2 : w2.heap.size = o + 1 := by rw [hw2, ho]; simp
  rw [← ho] at hBo ⊢
  have HW1 := Lib.hid ho
  clear hw2 ho
  -- the four ahead
  go_wp2_with fail
  refine (text_x o T _ (p1 T) rfl _ hst0 HTL.out).mono ?_
  rintro e w3 ⟨hk, rfl, hst1⟩
  have hs3 := hk.size
  have hK3 := hK2.trans (keeps_below hk (by omega))
  clear hk hK2 hst0
  go_wp2_with fail
  refine (fixed_x o T _ (p2 T) rfl _ hst1 HTL.out).mono ?_
  rintro e w4 ⟨hk, rfl, hst2⟩
  have hs4 := hk.size
  have hK4 := hK3.trans (keeps_below hk (by omega))
  clear hk hK3 hst1
  go_wp2_with fail
  refine (int_x o 1099511627776 T _ (p3 T) rfl _ hst2 HTL.out (by omega)).mono ?_
  rintro e w5 ⟨hk, rfl, hst3⟩
  have hs5 := hk.size
  have hK5 := hK4.trans (keeps_below hk (by omega))
  clear hk hK4 hst2
  go_wp2_with fail
  refine (int_x o 65536 T _ (p4 T) rfl _ hst3 HTL.out (by omega)).mono ?_
  rintro e w6 ⟨hk, rfl, hst4⟩
  have hs6 := hk.size
  have hK6 := hK5.trans (keeps_below hk (by omega))
  clear hk hK5 hst3
  obtain ⟨V1, hV1⟩ : ∃ V, V = str (p1 T).1 := ⟨_, rfl⟩
  obtain ⟨V2, hV2⟩ : ∃ V : Int, V = ((p2 T).1 : Nat) := ⟨_, rfl⟩
  obtain ⟨V3, hV3⟩ : ∃ V : Int, V = ((p3 T).1 : Nat) := ⟨_, rfl⟩
  obtain ⟨V4, hV4⟩ : ∃ V : Int, V = ((p4 T).1 : Nat) := ⟨_, rfl⟩
  rw [← hV1, ← hV2, ← hV3, ← hV4]
  have HV1 := Lib.hid hV1
  have HV2 := Lib.hid hV2
  have HV3 := Lib.hid hV3
  have HV4 := Lib.hid hV4
  clear hV1 hV2 hV3 hV4
  go_wp2_with fail
  obtain ⟨M, hM⟩ : ∃ M, M = w6.heap.size := ⟨_, rfl⟩
  obtain ⟨w7, hw7⟩ : ∃ w7, w7 = w6.alloc (.cells #[.string V1, .int .u64 V2, .int .i64 V3, .int .i64 V4, .string ⟨#[]⟩, .int .i64 0, .slice none 0 0] 29) := ⟨_, rfl⟩
  have hoM : o < M := by omega
  have hs7 : w7.heap.size = M + 1 := by rw [hw7, hM]; simp
  have hst7 : St w7 o (str T) (p4 T).2 := by rw [hw7]; exact hst4.keeps (Below.heap_alloc _ _ _ (by omega))
  have hK7 : Below o w1 w7 := by rw [hw7]; exact hK6.alloc (by omega) _
  have hm7 : w7.heap[M]? = some (.cells #[.string V1, .int .u64 V2, .int .i64 V3, .int .i64 V4, .string ⟨#[]⟩, .int .i64 0, .slice none 0 0] 29 (0, 0)) := by
    rw [hw7, hM]; exact heap_alloc_new w6 _
  rw [← hw7, ← hM]
  have HM := Lib.hid hM
  clear hw7 hM hK6 hst4 hs2 hs3 hs4 hs5 hs6
  refine (text_x o T _ (p5 T) rfl _ hst7 HTL.out).mono ?_
  rintro e w8 ⟨hk, rfl, hst8⟩
  have hs8 := hk.size
  have hK8 := hK7.trans (keeps_below hk (by omega))
  have hm8 := keeps_at hk hm7 (by omega)
  clear hk hK7 hst7 hm7
  go_wp2_with fail
  refine (int_x o 1099511627776 T _ (p6 T) rfl _ hst8 HTL.out (by omega)).mono ?_
  rintro e w9 ⟨hk, rfl, hst9⟩
  have hs9 := hk.size
  have hK9 := hK8.trans (keeps_below hk (by omega))
  have hm9 := keeps_at hk hm8 (by omega)
  clear hk hK8 hst8 hm8
  obtain ⟨V5, hV5⟩ : ∃ V, V = str (p5 T).1 := ⟨_, rfl⟩
  obtain ⟨V6, hV6⟩ : ∃ V : Int, V = ((p6 T).1 : Nat) := ⟨_, rfl⟩
  rw [← hV5, ← hV6]
  have HV5 := Lib.hid hV5
  have HV6 := Lib.hid hV6
  clear hV5 hV6
  have k4 := cell_of_heap hm9 4
  have k5 := cell_of_heap hm9 5
  have f := frozen_of_heap hm9
  simp only [List.getElem?_toArray, List.getElem?_cons_zero, List.getElem?_cons_succ] at k4 k5
  have HM9 := Lib.hid hm9
  clear hm9
  go_wp2_with fail
  obtain ⟨w10, hw10⟩ : ∃ w10, w10 = (w9.setCell ⟨M, 4, none⟩ (.string V5)).setCell ⟨M, 5, none⟩ (.int .i64 V6) := ⟨_, rfl⟩
  have hk10 : KeepsBut (fun k => k = M) w9 w10 := by rw [hw10]; exact (ks _ _ _ _).trans (ks _ _ _ _)
  have hm10 : w10.heap[M]? = some (.cells #[.string V1, .int .u64 V2, .int .i64 V3, .int .i64 V4, .string V5, .int .i64 V6, .slice none 0 0] 29 (0, 0)) := by
    rw [hw10, heap_setCell_same _ M 5 #[.string V1, .int .u64 V2, .int .i64 V3, .int .i64 V4, .string V5, .int .i64 0, .slice none 0 0] 29 _ (heap_setCell_same _ M 4 _ 29 _ HM9.out)]; rfl
  rw [← hw10]
  have hst10 := hst9.keeps (hk10.block o (by omega) (by omega))
  have hs10 := hk10.size
  have hK10 := hK9.trans (hk10.below (n := o) (fun k e => by omega) (by omega))
  clear hw10 hk10 hst9 hK9 k4 k5 f HM9
  refine (int_x o 100 T _ (p7 T) rfl _ hst10 HTL.out (by omega)).mono ?_
  rintro e w11 ⟨hk, rfl, hst11⟩
  have hs11 := hk.size
  have hK11 := hK10.trans (keeps_below hk (by omega))
  have hm11 := keeps_at hk hm10 (by omega)
  have hn : (p7 T).1 ≤ 100 := rd_int_le _ _ _
  obtain ⟨n, hN⟩ : ∃ n, n = (p7 T).1 := ⟨_, rfl⟩
  obtain ⟨st, hST⟩ : ∃ st, st = (p7 T).2 := ⟨_, rfl⟩
  rw [← hN] at hn ⊢
  rw [← hST] at hst11
  have HN := Lib.hid hN
  have HST := Lib.hid hST
  clear hk hK10 hst10 hm10 hN hST
  go_wp2
  go_loopw [43] (fun i wr => ∃ (k : Nat) (v : Value), i = .int .i64 k ∧ k ≤ n ∧ St wr o (str T) (rsnaps T k st).2 ∧
    wr.heap[M]? = some (.cells #[.string V1, .int .u64 V2, .int .i64 V3, .int .i64 V4, .string V5, .int .i64 V6, v] 29 (0, 0)) ∧
    wr.ownsRow (M + 1) 56 3 v k (rowVals (rsnaps T k st).1) ∧ Below o w1 wr ∧ M < wr.heap.size) (fun i _ => n - (intOf i).toNat)
  case atStart => exact ⟨0, .slice none 0 0, rfl, by omega, hst11, hm11, World.ownsRow_nil _ _ _ _, hK11, by omega⟩
  case round =>
    obtain ⟨k, v, rfl, hkn, hst, hm, hown, hbr, hMr⟩ := hrel
    by_cases hlt : k < n
    · obtain ⟨pA, hpA⟩ : ∃ p, p = rd [] (rtext 64) T (rsnaps T k st).2 := ⟨_, rfl⟩
      obtain ⟨pB, hpB⟩ : ∃ p, p = rd 0 (rint 1099511627776) T pA.2 := ⟨_, rfl⟩
      obtain ⟨pC, hpC⟩ : ∃ p, p = rd 0 (rint 1099511627776) T pB.2 := ⟨_, rfl⟩
      have hR1 : rowVals (rsnaps T (k + 1) st).1 = rowVals (rsnaps T k st).1 ++ [.string (str pA.1), .int .i64 (pB.1 : Nat), .int .i64 (pC.1 : Nat)] := by
        show rowVals ((rsnaps T k st).1 ++ [(rsnap T (rsnaps T k st).2).1]) = _
        rw [rowVals_append]
        subst hpC hpB hpA
        rfl
      have hR2 : (rsnaps T (k + 1) st).2 = pC.2 := by
        subst hpC hpB hpA
        rfl
      have HA := Lib.hid hpA
      have HBB := Lib.hid hpB
      have HC := Lib.hid hpC
      have HR1 := Lib.hid hR1
      have HR2 := Lib.hid hR2
      have hc := cell_of_heap hm 6
      have hf := frozen_of_heap hm
      simp only [List.getElem?_toArray, List.getElem?_cons_zero, List.getElem?_cons_succ] at hc
      have HMM := Lib.hid hm
      generalize hrow : rowVals (rsnaps T k st).1 = row at *
      generalize hstk : (rsnaps T k st).2 = stk at *
      have hsz : (k + 1) * 32 ≤ 140737488355328 := by omega
      have hmx : k + 1 ≤ maxLen := by simp [maxLen]; omega
      have HSZ := Lib.hid hsz
      have HMX := Lib.hid hmx
      clear hpA hpB hpC hR1 hR2 hm hrow hstk hsz hmx
      go_wp2_with fail
      go_region_law
        ((first
          | (refine step_append_lies _ (by rfl) _ _ _ (by rfl) (M + 1) 56 i0 _ 3 32 Try.underlying27 hi hz0 hz1 hz2 rfl (by omega) v k row (by rfl) (hown3.alloc _)
              ⟨a3.heap.size, 0, none⟩ 1 1 [.string (str pA.1), .int .i64 (pB.1 : Nat), .int .i64 (pC.1 : Nat)] (by rfl) (by rfl) (World.news_of_block (cs := #[.string (str pA.1), .int .i64 (pB.1 : Nat), .int .i64 (pC.1 : Nat)]) (t := 56) (fr := (0, 0)) (heap_alloc_new a3 _)) (by simp [Value.oneCell'])
              (by omega) HMX.out HSZ.out (by simp; omega) (a3.heap.size + 1) (by simp) ?_; intro gg cap a4 hown4 hgrow hat hlt4
             have hz4 : a3.heap.size + 1 ≤ a4.heap.size := by have := hgrow.size; simpa using this
             have hm4 := (hgrow.block M (by simp; omega) (fun e => by have := (hown.lt M e.symm).1; omega)).trans ((Below.heap_alloc a3 _ M (by omega)).trans (keeps_at hq3 HMM.out (by omega)))
             have hc4 : a4.cell? ⟨M, 6, none⟩ = some v := cell_of_heap hm4 6
             have hf4 : a4.frozen? ⟨M, 6, none⟩ = false := frozen_of_heap hm4 6)
          | (go_simp; go_at_call 29; refine (text_x o T _ pA HA.out _ ?_ HTL.out).mono ?_; (exact hst); rintro e a1 ⟨hk1, rfl, hst1⟩
             have hq1 : KeepsBut (fun j => j = o) wr a1 := ⟨hk1.os, hk1.tape, hk1.output, hk1.size, hk1.block⟩
             have hc1 : a1.cell? ⟨M, 6, none⟩ = some v := (hq1.cell (p := ⟨M, 6, none⟩) hMr (by show ¬ M = o; omega)).trans hc)
          | (go_simp; go_at_call 31; refine (int_x o 1099511627776 T _ pB HBB.out a1 ?_ HTL.out (by omega)).mono ?_; (exact hst1); rintro e a2 ⟨hk2, rfl, hst2⟩
             have hq2 := hq1.trans hk2
             have hc2 : a2.cell? ⟨M, 6, none⟩ = some v := (hq2.cell (p := ⟨M, 6, none⟩) hMr (by show ¬ M = o; omega)).trans hc)
          | (go_simp; go_at_call 31; refine (int_x o 1099511627776 T _ pC HC.out a2 ?_ HTL.out (by omega)).mono ?_; (exact hst2); rintro e a3 ⟨hk3, rfl, hst3⟩
             have hq3 := hq2.trans hk3
             have hs3 := hq3.size
             have hc3 : a3.cell? ⟨M, 6, none⟩ = some v := (hq3.cell (p := ⟨M, 6, none⟩) hMr (by show ¬ M = o; omega)).trans hc
             have hc5 : ∀ x : Obj, (a3.alloc x).cell? ⟨M, 6, none⟩ = some v := fun x => (World.cell?_of_block (w := a3) (w' := a3.alloc x) (a := ⟨M, 6, none⟩) (Below.heap_alloc a3 x M (by omega))).trans hc3
             have hown3 := row_kept hown hq3 (fun j e1 e2 => by have := hown.lt j e1; omega))))
      all_goals
        have HQ : Hid (∃ v', v' = Value.slice (some ⟨gg, 0, none⟩) (k + 1) cap ∧ St (a4.setCell ⟨M, 6, none⟩ v') o (str T) (rsnaps T (k + 1) st).2 ∧
            (a4.setCell ⟨M, 6, none⟩ v').heap[M]? = some (.cells #[.string V1, .int .u64 V2, .int .i64 V3, .int .i64 V4, .string V5, .int .i64 V6, v'] 29 (0, 0)) ∧
            (a4.setCell ⟨M, 6, none⟩ v').ownsRow (M + 1) 56 3 v' (k + 1) (rowVals (rsnaps T (k + 1) st).1) ∧ Below o w1 (a4.setCell ⟨M, 6, none⟩ v') ∧ M < (a4.setCell ⟨M, 6, none⟩ v').heap.size) := by
          refine ⟨_, rfl, ?_, ?_, ?_, ?_, ?_⟩
          · rw [HR2.out]
            refine hst3.keeps ?_
            rw [Below.heap_setCell _ _ _ _ (by show o ≠ M; omega), hgrow.block o (by simp; omega) (fun e => by have := (hown.lt o e.symm).1; omega)]
            exact Below.heap_alloc a3 _ o (by omega)
          · rw [heap_setCell_same _ M 6 _ 29 _ hm4]; rfl
          · rw [HR1.out]
            exact row_kept hown4 (ks _ M 6 _) (fun j e1 e2 => by
              rcases hat with e | e
              · have := (hown.lt gg e).1; cases e1; simp at e2; omega
              · cases e1; simp at e2; omega)
          · have h1 : Below o w1 a3 := hbr.trans (keeps_below hq3 (by omega))
            have h2 : Below o w1 a4 := ⟨hgrow.os.trans h1.os, hgrow.tape.trans h1.tape, hgrow.output.trans h1.output, by have := h1.size; omega, fun j hj => by
              rw [hgrow.block j (by simp; omega) (fun e => by have := (hown.lt j e.symm).1; omega)]
              exact (Below.heap_alloc a3 _ j (by omega)).trans (h1.block j hj)⟩
            exact h2.trans (keeps_below (o := M) (ks _ M 6 _) (by omega) |>.mono (by omega))
          · have : (a4.setCell ⟨M, 6, none⟩ (Value.slice (some ⟨gg, 0, none⟩) (k + 1) cap)).heap.size = a4.heap.size := by simp [World.setCell]
            rw [this]; omega
        clear hq1 hq2 hq3 hst1 hst2 hst3 hk1 hk2 hk3 hc1 hc2 hc3 hown3 hown4 hgrow hat hlt4 hm4 hbr hst hown hc hf
        go_wp2
        go_roundw
        case rel =>
          obtain ⟨v', rfl, q1, q2, q3, q4, q5⟩ := HQ.out
          exact ⟨k + 1, _, by go_num, by omega, q1, q2, q3, q4, q5⟩
        case measure => simp [intOf]; omega
    · obtain rfl : k = n := by omega
      obtain ⟨va, vc, rfl⟩ := owns_slice hown
      have HOWN := Lib.hid hown
      have hE : (rsnaps T k st).2 = pend T := by unfold pend; rw [← HN.out, ← HST.out]
      have hL : (rsnaps T k st).1.length = k := rsnaps_length _ _ _
      have hSn : SnapsAt wr (.slice va k vc) (rsnaps T k st).1 := snaps_of_row (base := M + 1) (by rw [hL]; exact hown)
      have hP : pman T = ⟨V1, V2, V3, V4, V5, V6, (rsnaps T k st).1⟩ := by
        rw [HV1.out, HV2.out, HV3.out, HV4.out, HV5.out, HV6.out, HN.out, HST.out]; rfl
      have HCK : Hid (∀ w', (∃ m, w' = wr.drewN m) → Calls Try.prog 33 #[.agg #[.string V1, .int .u64 V2, .int .i64 V3, .int .i64 V4, .string V5, .int .i64 V6, .slice va k vc]] w' fun e w'' => e = .returned (.int .i64 (chk (pman T))) ∧ Below w'.heap.size w' w'') := fun w' ⟨m, hm'⟩ => by
        have hS' : SnapsAt w' (.slice va k vc) (rsnaps T k st).1 := by rw [hm']; exact hSn
        have := check_any (pman T) (.slice va k vc) w' (pman_fits T HTL.out) (by rw [hP]; exact hS')
        rw [hP] at this ⊢
        exact this
      have hx' : wr.heap[w.heap.size]? = some (.cells #[.string ⟨#[]⟩, .int .u64 0, .int .i64 0, .int .i64 0, .string ⟨#[]⟩, .int .i64 0, .slice none 0 0] 29 (0, 0)) := (hbr.block _ hBo).trans HX.out
      have HBW : Hid (Below w.heap.size w wr) := HB.out.trans (hbr.mono (by omega))
      have HX' := Lib.hid hx'
      have HM' := Lib.hid hm
      have HSN := Lib.hid hSn
      have HPM := Lib.hid hP
      have HR : Hid (∀ (q : Man × Int) (sv : Value) (W W' : World), manRes T = q → (∃ m, W = wr.drewN m) → SnapsAt W sv q.1.snaps → Below W.heap.size W W' → True) := fun _ _ _ _ _ _ _ _ => trivial
      have hD := done_st o (str T) _ wr hst (by rw [str_size]; exact HTL.out)
      rw [hE, str_size] at hD
      have HD := Lib.hid hD
      by_cases hq : pend T = some T.length
      · by_cases hch : chk (pman T) = 0
        · have hres : manRes T = (pman T, 0) := if_pos ⟨hq, hch⟩
          have HRES := Lib.hid hres
          have HQ := Lib.hid hq
          have HM9 := hm
          have m0 := cell_of_heap HM9 0
          have m1 := cell_of_heap HM9 1
          have m2 := cell_of_heap HM9 2
          have m3 := cell_of_heap HM9 3
          have m4 := cell_of_heap HM9 4
          have m5 := cell_of_heap HM9 5
          have m6 := cell_of_heap HM9 6
          simp only [List.getElem?_toArray, List.getElem?_cons_zero, List.getElem?_cons_succ] at m0 m1 m2 m3 m4 m5 m6
          clear hD hE hL hSn hP hres hq hst hm hown hbr HM9 hx'
          go_wp2_with fail
          refine HD.out.mono ?_
          rintro e w20 ⟨⟨m, rfl⟩, c, rfl, hc⟩
          obtain rfl : c = 0 := hc.mpr HQ.out
          clear hc
          rw [hch] at HCK
          go_wp2_with fail
          refine (HCK.out _ ⟨m, rfl⟩).mono ?_
          rintro e w21 ⟨rfl, hb21⟩
          have hx' : w21.heap[w.heap.size]? = some (.cells #[.string ⟨#[]⟩, .int .u64 0, .int .i64 0, .int .i64 0, .string ⟨#[]⟩, .int .i64 0, .slice none 0 0] 29 (0, 0)) := (hb21.block _ (World.lt_of_heap HX'.out)).trans HX'.out
          have hm21 : w21.heap[M]? = some (.cells #[.string V1, .int .u64 V2, .int .i64 V3, .int .i64 V4, .string V5, .int .i64 V6, .slice va k vc] 29 (0, 0)) := (hb21.block _ (World.lt_of_heap HM'.out)).trans HM'.out
          have HB21 := Lib.hid hb21
          have HX21 := Lib.hid hx'
          have k0 := cell_of_heap hx' 0
          have k1 := cell_of_heap hx' 1
          have k2 := cell_of_heap hx' 2
          have k3 := cell_of_heap hx' 3
          have k4 := cell_of_heap hx' 4
          have k5 := cell_of_heap hx' 5
          have k6 := cell_of_heap hx' 6
          have f := frozen_of_heap hx'
          simp only [List.getElem?_toArray, List.getElem?_cons_zero, List.getElem?_cons_succ] at k0 k1 k2 k3 k4 k5 k6
          have m0 := cell_of_heap hm21 0
          have m1 := cell_of_heap hm21 1
          have m2 := cell_of_heap hm21 2
          have m3 := cell_of_heap hm21 3
          have m4 := cell_of_heap hm21 4
          have m5 := cell_of_heap hm21 5
          have m6 := cell_of_heap hm21 6
          simp only [List.getElem?_toArray, List.getElem?_cons_zero, List.getElem?_cons_succ] at m0 m1 m2 m3 m4 m5 m6
          clear hb21 hx' hm21
          go_wp2
          obtain ⟨g1, g2⟩ := seven HX21.out (.string V1) (.int .u64 V2) (.int .i64 V3) (.int .i64 V4) (.string V5) (.int .i64 V6) (.slice va k vc)
          have hB := (((keeps_drewN (fun k => k = w.heap.size) wr m).trans (.of_below HB21.out)).trans g2).below (n := w.heap.size) (fun k e => by omega) HBW.out.size
          refine leaveB (res8 g1 rfl rfl) ?_
          rw [HRES.out]
          refine ⟨.slice va k vc, by rw [HPM.out]; rfl, ?_, HBW.out.trans hB⟩
          rw [HPM.out]
          have r1 := row_kept (w := wr.drewN m) HOWN.out (KeepsBut.of_below (X := fun _ => False) HB21.out) (fun _ _ => id)
          have r2 := row_kept r1 g2 (fun j e1 e2 => by have := (r1.lt j e1).1; omega)
          exact snaps_of_row (base := M + 1) (by rw [rsnaps_length]; exact r2)
        · have hres : manRes T = (Man.zero, 12) := if_neg (fun e => hch e.2)
          have HRES := Lib.hid hres
          have HQ := Lib.hid hq
          have HM9 := hm
          have m0 := cell_of_heap HM9 0
          have m1 := cell_of_heap HM9 1
          have m2 := cell_of_heap HM9 2
          have m3 := cell_of_heap HM9 3
          have m4 := cell_of_heap HM9 4
          have m5 := cell_of_heap HM9 5
          have m6 := cell_of_heap HM9 6
          simp only [List.getElem?_toArray, List.getElem?_cons_zero, List.getElem?_cons_succ] at m0 m1 m2 m3 m4 m5 m6
          clear hD hE hL hSn hP hres hq hst hm hown hbr HM9 hx'
          go_wp2_with fail
          refine HD.out.mono ?_
          rintro e w20 ⟨⟨m, rfl⟩, c, rfl, hc⟩
          obtain rfl : c = 0 := hc.mpr HQ.out
          clear hc
          have hcn : (chk (pman T) != 0) = true := by rw [bne_iff_ne]; exact hch
          go_wp2_with fail
          refine (HCK.out _ ⟨m, rfl⟩).mono ?_
          rintro e w21 ⟨rfl, hb21⟩
          have hx' : w21.heap[w.heap.size]? = some (.cells #[.string ⟨#[]⟩, .int .u64 0, .int .i64 0, .int .i64 0, .string ⟨#[]⟩, .int .i64 0, .slice none 0 0] 29 (0, 0)) := (hb21.block _ (World.lt_of_heap HX'.out)).trans HX'.out
          have hm21 : w21.heap[M]? = some (.cells #[.string V1, .int .u64 V2, .int .i64 V3, .int .i64 V4, .string V5, .int .i64 V6, .slice va k vc] 29 (0, 0)) := (hb21.block _ (World.lt_of_heap HM'.out)).trans HM'.out
          have HB21 := Lib.hid hb21
          have HX21 := Lib.hid hx'
          have k0 := cell_of_heap hx' 0
          have k1 := cell_of_heap hx' 1
          have k2 := cell_of_heap hx' 2
          have k3 := cell_of_heap hx' 3
          have k4 := cell_of_heap hx' 4
          have k5 := cell_of_heap hx' 5
          have k6 := cell_of_heap hx' 6
          have f := frozen_of_heap hx'
          simp only [List.getElem?_toArray, List.getElem?_cons_zero, List.getElem?_cons_succ] at k0 k1 k2 k3 k4 k5 k6
          clear hb21 hx' hm21
          go_wp2
          obtain ⟨g1, g2⟩ := seven HX21.out (.string ⟨#[]⟩) (.int .u64 0) (.int .i64 0) (.int .i64 0) (.string ⟨#[]⟩) (.int .i64 0) (.slice none 0 0)
          exact leaveB (res8 g1 rfl rfl) (by rw [HRES.out]; exact manPost_zero 12 (HBW.out.trans ((((keeps_drewN _ wr m).trans (.of_below HB21.out)).trans g2).below (fun k e => by omega) HBW.out.size)))
      · have hres : manRes T = (Man.zero, 12) := if_neg (fun e => hq e.1)
        have HRES := Lib.hid hres
        have HQ := Lib.hid hq
        have k0 := cell_of_heap hx' 0
        have k1 := cell_of_heap hx' 1
        have k2 := cell_of_heap hx' 2
        have k3 := cell_of_heap hx' 3
        have k4 := cell_of_heap hx' 4
        have k5 := cell_of_heap hx' 5
        have k6 := cell_of_heap hx' 6
        have f := frozen_of_heap hx'
        simp only [List.getElem?_toArray, List.getElem?_cons_zero, List.getElem?_cons_succ] at k0 k1 k2 k3 k4 k5 k6
        clear hD hE hL hSn hP hx' hres hq hst hm hown hbr
        go_wp2_with fail
        refine HD.out.mono ?_
        rintro e w20 ⟨⟨m, rfl⟩, c, rfl, hc⟩
        have hcn : (c != 0) = true := by rw [bne_iff_ne]; exact fun e => HQ.out (hc.mp e)
        clear hc
        go_wp2
        obtain ⟨g1, g2⟩ := seven (w := wr.drewN m) HX'.out (.string ⟨#[]⟩) (.int .u64 0) (.int .i64 0) (.int .i64 0) (.string ⟨#[]⟩) (.int .i64 0) (.slice none 0 0)
        exact leaveB (res8 g1 rfl rfl) (by rw [HRES.out]; exact manPost_zero 12 (HBW.out.trans (((keeps_drewN _ wr m).trans g2).below (fun k e => by omega) HBW.out.size)))
end Go.Proofs.Ytmkcphelmgkipaa
