import Derived.Test.YtmkcphelmgkipaaT12
set_option linter.unusedVariables false
set_option linter.unusedSimpArgs false
namespace Go.Proofs.Ytmkcphelmgkipaa
open Go.RowKit Go.Shelf
attribute [local go_sem] Oper.semAt_some
attribute [local go_sem] wide_fn wide_depth

theorem SnapsAt.below {w w' : World} {n : Nat} {sv : Value} {l : List Snp} (h : SnapsAt w sv l) (hb : Below n w w') (hn : w.heap.size ≤ n) : SnapsAt w' sv l := by
  obtain ⟨a, cap, e, hc⟩ := h
  refine ⟨a, cap, e, fun i hi => ?_⟩
  obtain ⟨b, off, ha, h0, h1, h2⟩ := hc i hi
  have hbw := World.block_lt_of_cell? _ _ h0
  have hlt : b < n := Nat.lt_of_lt_of_le hbw hn
  exact ⟨b, off, ha, (hb.cell (p := ⟨b, off + i * 3, none⟩) hlt).trans h0, (hb.cell (p := ⟨b, off + i * 3 + 1, none⟩) hlt).trans h1, (hb.cell (p := ⟨b, off + i * 3 + 2, none⟩) hlt).trans h2⟩

theorem prs_mem (l : List Snp) (k n : Nat) (hk : k ≤ n) (p : Snp × Snp) (hp : p ∈ prs l k) : p ∈ prs l n := by
  induction n with
  | zero => have : k = 0 := by omega
            subst this; exact hp
  | succ n ih =>
    by_cases h : k = n + 1
    · subst h; exact hp
    · exact List.mem_append_left _ (ih (by omega))

set_option maxHeartbeats 4000000 in
set_option maxRecDepth 100000 in
theorem check_rest (m : Man) (sv : Value) (w : World) (hf : Fits m) (hS : SnapsAt w sv m.snaps) (hvol : vol m.vol.data.toList = true) (hmay : mayB m.bvol m.bseq m.vol = true) :
    Calls Try.prog 33 #[m.val sv] w fun e w' => e = .returned (.int .i64 (chk m)) ∧ Below w.heap.size w w' := by
  have hcase : (nump m.serial = true ∧ decide (1 ≤ m.size) = true ∧ decide (m.size ≤ 65536) = true ∧ Hid (right0 m = true)) ∨ (nump m.serial = true ∧ decide (1 ≤ m.size) = true ∧ decide (m.size ≤ 65536) = false ∧ Hid (right0 m = false)) ∨ (nump m.serial = true ∧ decide (1 ≤ m.size) = false ∧ True ∧ Hid (right0 m = false)) ∨ (nump m.serial = false ∧ True ∧ True ∧ Hid (right0 m = false)) := by
    unfold right0 Hid
    cases nump m.serial with
    | false => simp
    | true =>
      cases decide (1 ≤ m.size) with
      | false => simp
      | true =>
        cases decide (m.size ≤ 65536) with
        | false => simp
        | true => simp
  obtain ⟨v, key, serial, size, bv, bs, l⟩ := m
  obtain ⟨hv, hbv, hlen, hnames⟩ := hf
  simp only [Man.val] at *
  have HV := Lib.hid (volume_any v ((w.alloc (.cells #[.string v, .int .u64 key, .int .i64 serial, .int .i64 size, .string bv, .int .i64 bs, sv] 29)).alloc (.cells #[.int .i64 0] 30)) hv)
  obtain ⟨a, cap, rfl, hcs⟩ := hS
  have HCS := Lib.hid hcs
  have HVOL := Lib.hid hvol
  have HMAY := Lib.hid hmay
  have HNM := Lib.hid hnames
  clear hcs hvol hmay hnames
  refine (callsIn_wide (n := 4)).1 ?_
  refine callsIn_of_wp_marks Try.func33 rfl trivial ?_ wide_round
  simp only [Try.ntmps33, List.size_toArray, List.length_cons, List.length_nil, Nat.reduceAdd, Nat.reduceSub, Array.replicate_succ, Array.replicate_zero, List.push_toArray, List.append_toArray, List.nil_append, List.cons_append]
  gi_wp2_with fail
  refine (callsIn_wide.2 HV.out).mono ?_
  rintro e w1 ⟨rfl, hb⟩
  rw [volE_yes HVOL.out]
  obtain ⟨h1, h2, h3, h4⟩ := kept_two hb
  have c0 := cell_of_heap h1 0
  have c4 := cell_of_heap h1 4
  have c5 := cell_of_heap h1 5
  clear hb
  simp only [List.getElem?_toArray, List.getElem?_cons_zero, List.getElem?_cons_succ] at c0 c4 c5
  have H1 := Lib.hid h1
  have H2 := Lib.hid h2
  have H3 := Lib.hid h3
  clear h1 h2 h3
  gi_wp2_with fail
  refine (callsIn_wide.2 (may_any bv v bs w1 hbv)).mono ?_
  rintro e w2 ⟨rfl, hb2⟩
  rw [HMAY.out]
  have h5 : Below w.heap.size w w2 := H3.out.trans (hb2.mono (by omega))
  have h6 : w2.heap[w.heap.size]? = _ := (hb2.block _ (by omega)).trans H1.out
  have h7 : w2.heap[w.heap.size + 1]? = _ := (hb2.block _ (by omega)).trans H2.out
  have h8 : w.heap.size + 1 < w2.heap.size := by have := hb2.size; omega
  have h9 : w.heap.size < w2.heap.size := by omega
  clear hb2 c0 c4 c5 h4
  have d2 := cell_of_heap h6 2
  have d3 := cell_of_heap h6 3
  have d6 := cell_of_heap h6 6
  simp only [List.getElem?_toArray, List.getElem?_cons_zero, List.getElem?_cons_succ] at d2 d3 d6
  have H5 := Lib.hid h5
  have H6 := Lib.hid h6
  have H7 := Lib.hid h7
  clear h5 h6 h7
  rcases hcase with ⟨n1, n2, n3, HR⟩ | ⟨n1, n2, n3, HR⟩ | ⟨n1, n2, n3, HR⟩ | ⟨n1, n2, n3, HR⟩
  · gi_wp2_with fail
    refine (callsIn_wide.2 (number_any serial w2)).mono ?_
    rintro e w2 ⟨rfl, rfl⟩
    rw [n1]
    clear n1
    gi_wp2_with fail
    refine (callsIn_wide.2 (pairs_any _ _ _ _)).mono ?_
    rintro e w3 ⟨rfl, rfl⟩
    gi_wp2
    have hSn : SnapsAt w (.slice a l.length cap) l := ⟨a, cap, rfl, HCS.out⟩
    have hb0 : Below w.heap.size w ((w2.alloc (.cells #[.bool true] 4)).alloc (.cells #[.slice a l.length cap] 27)) := (H5.out.alloc (by omega) _).alloc (by simp; omega) _
    have hS0 := hSn.below hb0 (Nat.le_refl _)
    have i1 : ((w2.alloc (.cells #[.bool true] 4)).alloc (.cells #[.slice a l.length cap] 27)).heap[w2.heap.size]? = some (.cells #[.bool true] 4 (0, 0)) := by
      rw [Below.heap_alloc _ _ _ (by simp)]; exact heap_alloc_new w2 _
    have i2 : ((w2.alloc (.cells #[.bool true] 4)).alloc (.cells #[.slice a l.length cap] 27)).heap[w.heap.size + 1]? = some (.cells #[.int .i64 0] 30 (0, 0)) := by
      rw [Below.heap_alloc _ _ _ (by simp; omega), Below.heap_alloc _ _ _ h8]; exact H7.out
    have i5 : ((w2.alloc (.cells #[.bool true] 4)).alloc (.cells #[.slice a l.length cap] 27)).heap[w.heap.size]? = some (.cells #[.string v, .int .u64 key, .int .i64 serial, .int .i64 size, .string bv, .int .i64 bs, .slice a l.length cap] 29 (0, 0)) := by
      rw [Below.heap_alloc _ _ _ (by simp; omega), Below.heap_alloc _ _ _ h9]; exact H6.out
    have i3 : ((w2.alloc (.cells #[.bool true] 4)).alloc (.cells #[.slice a l.length cap] 27)).cell? ⟨w2.heap.size + 1, 0, none⟩ = some (.slice a l.length cap) := by
      rw [World.cell?_alloc_at (hn := by simp)]; rfl
    have i4 : ((w2.alloc (.cells #[.bool true] 4)).alloc (.cells #[.slice a l.length cap] 27)).heap.size = w2.heap.size + 2 := by simp
    have hsb : ∀ b off, a = some ⟨b, off, none⟩ → 0 < l.length → b < w.heap.size := by
      intro b off hab hpos
      obtain ⟨b', off', e, hc, _⟩ := HCS.out 0 hpos
      rw [hab] at e
      simp only [Option.some.injEq, Addr.mk.injEq] at e
      obtain ⟨rfl, rfl, _⟩ := e
      exact World.block_lt_of_cell? _ _ hc
    obtain ⟨W0, hW0⟩ : ∃ W0, W0 = ((w2.alloc (.cells #[.bool true] 4)).alloc (.cells #[.slice a l.length cap] 27)) := ⟨_, rfl⟩
    rw [← hW0] at i1 i2 i3 i4 i5 hb0 hS0 ⊢
    refine wpIn_rangeFunc_X (gf := 84) (lb := #[.pointer (some ⟨w2.heap.size + 1, 0, none⟩)]) rfl (enters_of Try.func84 (by kernel_rfl) rfl)
      (pairs_seq (w2.heap.size + 1) cap a l W0 hlen i3 hS0) ?_ (fun _ => rfl) (fun k => k = w2.heap.size ∨ k = w.heap.size + 1) ?_
      (fun pre W => (∀ p ∈ pre, nameBad p = false) ∧ W.heap[w2.heap.size]? = some (.cells #[.bool (true && pre.all numsOk)] 4 (0, 0)) ∧ W.heap[w.heap.size + 1]? = some (.cells #[.int .i64 0] 30 (0, 0)) ∧ Below w.heap.size w W ∧ W.heap[w.heap.size]? = some (.cells #[.string v, .int .u64 key, .int .i64 serial, .int .i64 size, .string bv, .int .i64 bs, .slice a l.length cap] 29 (0, 0)))
      (fun c pre W => c = .ret ∧ (∃ p ∈ pre, nameBad p = true) ∧ W.heap[w.heap.size + 1]? = some (.cells #[.int .i64 1] 30 (0, 0)) ∧ Below w.heap.size w W)
      ?_ ?_ ⟨by simp, i1, i2, hb0, i5⟩
      (fun T pre x a' W => ∃ b1 b2, a' = { tmps := (((T.setIfInBounds 34 x.1.val).setIfInBounds 35 x.2.val).setIfInBounds 4 (.pointer (some ⟨b1, 0, none⟩))).setIfInBounds 5 (.pointer (some ⟨b2, 0, none⟩)), defers := [] } ∧
        W.heap[b1]? = some (.cells #[.string x.1.name, .int .i64 x.1.seq, .int .i64 x.1.upto] 56 (0, 0)) ∧ W.heap[b2]? = some (.cells #[.string x.2.name, .int .i64 x.2.seq, .int .i64 x.2.upto] 56 (0, 0)) ∧ w2.heap.size + 4 ≤ b1 ∧ w2.heap.size + 4 ≤ b2)
      ?_ ?assign ?body ?done ?stop
    · intro k hk
      exact ⟨by omega, fun b off hpos hab => by have := hsb b off hab hpos; omega⟩
    · rintro k (rfl | rfl)
      · exact ⟨⟨by omega, fun b off hpos hab => by have := hsb b off hab hpos; omega⟩, by omega⟩
      · exact ⟨⟨by omega, fun b off hpos hab => by have := hsb b off hab hpos; omega⟩, by omega⟩
    · rintro s A B ⟨j1, j2, j3, j4, j5⟩ hAB
      exact ⟨j1, (hAB.block _ (by omega)).trans j2, (hAB.block _ (by omega)).trans j3, j4.trans (hAB.mono (by omega)), (hAB.block _ (by omega)).trans j5⟩
    · rintro c s A B ⟨j1, j2, j3, j4⟩ hAB
      exact ⟨j1, j2, (hAB.block _ (by omega)).trans j3, j4.trans (hAB.mono (by omega))⟩
    · rintro T pre x a' A B ⟨b1, b2, j1, j2, j3, j4, j5⟩ hk
      exact ⟨b1, b2, j1, (hk _ (by omega)).trans j2, (hk _ (by omega)).trans j3, j4, j5⟩
    case assign =>
      intro pre x W K hi hsz hK
      simp only [Snp.val]
      gi_wp2
      exact hK _ _ (((Below.refl _ W).alloc (Nat.le_refl _) _).alloc (by simp) _) ⟨W.heap.size, W.heap.size + 1, rfl, by rw [Below.heap_alloc _ _ _ (by simp)]; exact heap_alloc_new W _,
        by have := heap_alloc_new (W.alloc (.cells #[.string x.1.name, .int .i64 x.1.seq, .int .i64 x.1.upto] 56)) (.cells #[.string x.2.name, .int .i64 x.2.seq, .int .i64 x.2.upto] 56); rwa [World.size_alloc] at this, by omega, by omega⟩
    case body =>
      rintro pre x a' W ⟨j1, j2, j3, j4, j5⟩ hlp hsz ⟨b1, b2, rfl, k1, k2, k3, k4⟩
      simp only [List.setIfInBounds_toArray, List.set_cons_succ, List.set_cons_zero, Snp.val]
      have c1 := cell_of_heap k1 0
      have d0 := cell_of_heap k2 0
      have d1 := cell_of_heap k2 1
      have d2' := cell_of_heap k2 2
      have e0 := cell_of_heap j2 0
      have e1 := frozen_of_heap j2 0
      have g0 := cell_of_heap j3 0
      have g1 := frozen_of_heap j3 0
      simp only [List.getElem?_toArray, List.getElem?_cons_zero, List.getElem?_cons_succ] at c1 d0 d1 d2' e0 g0
      have J1 := Lib.hid j1
      have J2 := Lib.hid j2
      have J3 := Lib.hid j3
      have J4 := Lib.hid j4
      have J5 := Lib.hid j5
      clear j1 j2 j3 j4 j5 k1 k2
      cases hc : (Op.bytesLess x.2.name.toList x.1.name.toList || x.2.name.toList == x.1.name.toList) with
      | true =>
        have HX : Hid (nameBad x = true) := by show _ = _; unfold nameBad; rw [hc]; rfl
        gi_wp2
        exact ⟨KeepsBut.setCell W (p := ⟨w.heap.size + 1, 0, none⟩) (.inr rfl) _, rfl, ⟨x, by simp, HX.out⟩, by rw [heap_setCell_same W _ 0 _ 30 _ J3.out]; rfl, J4.out.setCell (p := ⟨w.heap.size + 1, 0, none⟩) (by simp) _⟩
      | false =>
        by_cases h64 : 64 < x.2.name.size
        · have HX : Hid (nameBad x = true) := by show _ = _; unfold nameBad; rw [hc, decide_eq_true h64]; rfl
          gi_wp2
          exact ⟨KeepsBut.setCell W (p := ⟨w.heap.size + 1, 0, none⟩) (.inr rfl) _, rfl, ⟨x, by simp, HX.out⟩, by rw [heap_setCell_same W _ 0 _ 30 _ J3.out]; rfl, J4.out.setCell (p := ⟨w.heap.size + 1, 0, none⟩) (by simp) _⟩
        · have HX : Hid (nameBad x = false) := by show _ = _; unfold nameBad; rw [hc, decide_eq_false h64]; rfl
          have hgoods : ∀ p ∈ pre ++ [x], nameBad p = false := by
            intro p hp
            rcases List.mem_append.1 hp with h | h
            · exact J1.out p h
            · simp only [List.mem_singleton] at h; rw [h]; exact HX.out
          have HG := Lib.hid hgoods
          clear hgoods
          have hst : ∀ (A : Act) (r : Bool), r = (true && (pre ++ [x]).all numsOk) →
              ownPostX (fun k => k = w2.heap.size ∨ k = w.heap.size + 1)
                (fun pre W => (∀ p ∈ pre, nameBad p = false) ∧ W.heap[w2.heap.size]? = some (.cells #[.bool (true && pre.all numsOk)] 4 (0, 0)) ∧ W.heap[w.heap.size + 1]? = some (.cells #[.int .i64 0] 30 (0, 0)) ∧ Below w.heap.size w W ∧ W.heap[w.heap.size]? = some (.cells #[.string v, .int .u64 key, .int .i64 serial, .int .i64 size, .string bv, .int .i64 bs, .slice a l.length cap] 29 (0, 0)))
                (fun c pre W => c = .ret ∧ (∃ p ∈ pre, nameBad p = true) ∧ W.heap[w.heap.size + 1]? = some (.cells #[.int .i64 1] 30 (0, 0)) ∧ Below w.heap.size w W)
                (pre ++ [x]) W Exit.normal A (W.setCell ⟨w2.heap.size, 0, none⟩ (.bool r)) := by
            intro A r hr
            refine ⟨KeepsBut.setCell W (p := ⟨w2.heap.size, 0, none⟩) (.inl rfl) _, HG.out, ?_, ?_, J4.out.setCell (p := ⟨w2.heap.size, 0, none⟩) (by simp; omega) _, ?_⟩
            · rw [heap_setCell_same W _ 0 _ 4 _ J2.out, hr]; rfl
            · rw [Below.heap_setCell _ _ _ _ (by show w.heap.size + 1 ≠ w2.heap.size; omega)]; exact J3.out
            · rw [Below.heap_setCell _ _ _ _ (by show w.heap.size ≠ w2.heap.size; omega)]; exact J5.out
          have HST := Lib.hid hst
          clear hst
          cases hr : (true && pre.all numsOk) with
          | false =>
            have hall : (true && (pre ++ [x]).all numsOk) = false := by rw [Bool.true_and] at hr ⊢; rw [List.all_append, hr]; rfl
            have HA := Lib.hid hall
            rw [hr] at e0
            clear hr hall
            gi_wp2
            exact HST.out _ _ HA.out.symm
          | true =>
            rw [hr] at e0
            cases hn1 : nump x.2.seq with
            | false =>
              have hall : (true && (pre ++ [x]).all numsOk) = false := by rw [Bool.true_and, List.all_append]; simp [numsOk, hn1]
              have HA := Lib.hid hall
              clear hr hall
              gi_wp2_with (gi_at_call 66; refine (CallsIn.inRound _ (callsIn_wide.2 (number_any _ W))).mono ?_; rintro e W ⟨rfl, rfl⟩; rw [hn1])
              exact HST.out _ _ HA.out.symm
            | true =>
              have hall : (true && (pre ++ [x]).all numsOk) = nump x.2.upto := by rw [Bool.true_and] at hr ⊢; rw [List.all_append, hr]; simp [numsOk, hn1]
              have HA := Lib.hid hall
              clear hr hall
              gi_wp2_with fail
              refine (CallsIn.inRound _ (callsIn_wide.2 (number_any _ W))).mono ?_
              rintro e W ⟨rfl, rfl⟩
              rw [hn1]
              clear hn1
              gi_wp2_with fail
              refine (CallsIn.inRound _ (callsIn_wide.2 (number_any _ W))).mono ?_
              rintro e W ⟨rfl, rfl⟩
              gi_wp2
              exact HST.out _ _ HA.out.symm
    case done =>
      rintro D ys W hD rfl ⟨j1, j2, j3, j4, j5⟩ hK
      have e0 := cell_of_heap j2 0
      have g0 := cell_of_heap j3 0
      have g1 := frozen_of_heap j3 0
      have m6 := cell_of_heap j5 6
      simp only [List.getElem?_toArray, List.getElem?_cons_zero, List.getElem?_cons_succ] at e0 g0 m6
      have J1 := Lib.hid j1
      have J3 := Lib.hid j3
      have J4 := Lib.hid j4
      have HK := Lib.hid hK
      have hfin : ∀ n : Int, (W.setCell ⟨w.heap.size + 1, 0, none⟩ (.int .i64 n)).heap[D]? = some (.deferred (some [])) ∧
          ((W.setCell ⟨w.heap.size + 1, 0, none⟩ (.int .i64 n)).putObj D (.deferred none)).cell? ⟨w.heap.size + 1, 0, none⟩ = some (.int .i64 n) ∧
          Below w.heap.size w ((W.setCell ⟨w.heap.size + 1, 0, none⟩ (.int .i64 n)).putObj D (.deferred none)) := by
        intro n
        refine ⟨?_, ?_, below_putObj (J4.out.setCell (p := ⟨w.heap.size + 1, 0, none⟩) (by simp) _) (by omega) _⟩
        · rw [Below.heap_setCell _ _ _ _ (by show D ≠ w.heap.size + 1; omega)]; exact HK.out
        · have := heap_setCell_same W (w.heap.size + 1) 0 _ 30 (.int .i64 n) J3.out
          have h2 : ((W.setCell ⟨w.heap.size + 1, 0, none⟩ (.int .i64 n)).putObj D (.deferred none)).heap[w.heap.size + 1]? = some (.cells #[.int .i64 n] 30 (0, 0)) := by
            rw [World.putObj_heap_other (by omega)]; exact this
          simp [World.cell?, h2]
      have HF := Lib.hid hfin
      have hany : (prs l l.length).any nameBad = false := by rw [List.any_eq_false]; intro p hp; rw [J1.out p hp]; simp
      have HANY := Lib.hid hany
      clear j1 j2 j3 j4 j5 hK hfin hany
      cases hr : (true && (prs l l.length).all numsOk) with
      | false =>
        rw [hr] at e0
        have HC : Hid (chk ⟨v, key, serial, size, bv, bs, l⟩ = 31) := by
          show _ = _
          unfold chk
          dsimp only
          rw [HVOL.out, HMAY.out, if_neg (by simp), if_neg (by rw [HANY.out]; simp), HR.out, if_pos hr]
        clear hr
        gi_wp2
        exact leaveD (HF.out 31).1 (res33 (HF.out 31).2.1 _ rfl) ⟨by rw [HC.out], (HF.out 31).2.2⟩
      | true =>
        rw [hr] at e0
        by_cases h100 : 100 < l.length
        · have HC : Hid (chk ⟨v, key, serial, size, bv, bs, l⟩ = 32) := by
            show _ = _
            unfold chk
            dsimp only
            rw [HVOL.out, HMAY.out, if_neg (by simp), if_neg (by rw [HANY.out]; simp), HR.out, if_neg (by rw [hr]; simp), if_pos h100]
          clear hr
          gi_wp2
          exact leaveD (HF.out 32).1 (res33 (HF.out 32).2.1 _ rfl) ⟨by rw [HC.out], (HF.out 32).2.2⟩
        · have HC : Hid (chk ⟨v, key, serial, size, bv, bs, l⟩ = 0) := by
            show _ = _
            unfold chk
            dsimp only
            rw [HVOL.out, HMAY.out, if_neg (by simp), if_neg (by rw [HANY.out]; simp), HR.out, if_neg (by rw [hr]; simp), if_neg h100]
          clear hr
          gi_wp2
          exact leaveD (HF.out 0).1 (res33 (HF.out 0).2.1 _ rfl) ⟨by rw [HC.out], (HF.out 0).2.2⟩
    case stop =>
      rintro D c pre W hD ⟨k, hk, rfl⟩ ⟨rfl, ⟨p, hp, hbad⟩, j3, j4⟩ hK
      have HC : Hid (chk ⟨v, key, serial, size, bv, bs, l⟩ = 1) := by
        show _ = _
        unfold chk
        dsimp only
        rw [HVOL.out, HMAY.out, if_neg (by simp), if_pos (List.any_eq_true.2 ⟨p, prs_mem l k _ hk p hp, hbad⟩)]
      have J3 := Lib.hid j3
      have J4 := Lib.hid j4
      have HK := Lib.hid hK
      clear hp hbad j3 j4 hK
      gi_wp2
      have h2 : (W.putObj D (.deferred none)).cell? ⟨w.heap.size + 1, 0, none⟩ = some (.int .i64 1) := by
        have h3 : (W.putObj D (.deferred none)).heap[w.heap.size + 1]? = some (.cells #[.int .i64 1] 30 (0, 0)) := by
          rw [World.putObj_heap_other (by omega)]; exact J3.out
        simp [World.cell?, h3]
      exact leaveD HK.out (res33 h2 _ rfl) ⟨by rw [HC.out], below_putObj J4.out (by omega) _⟩
  all_goals
    gi_wp2_with fail
    refine (callsIn_wide.2 (number_any serial w2)).mono ?_
    rintro e w2 ⟨rfl, rfl⟩
    rw [n1]
    clear n1
    gi_wp2_with fail
    refine (callsIn_wide.2 (pairs_any _ _ _ _)).mono ?_
    rintro e w3 ⟨rfl, rfl⟩
    gi_wp2
    have hSn : SnapsAt w (.slice a l.length cap) l := ⟨a, cap, rfl, HCS.out⟩
    have hb0 : Below w.heap.size w ((w2.alloc (.cells #[.bool false] 4)).alloc (.cells #[.slice a l.length cap] 27)) := (H5.out.alloc (by omega) _).alloc (by simp; omega) _
    have hS0 := hSn.below hb0 (Nat.le_refl _)
    have i1 : ((w2.alloc (.cells #[.bool false] 4)).alloc (.cells #[.slice a l.length cap] 27)).heap[w2.heap.size]? = some (.cells #[.bool false] 4 (0, 0)) := by
      rw [Below.heap_alloc _ _ _ (by simp)]; exact heap_alloc_new w2 _
    have i2 : ((w2.alloc (.cells #[.bool false] 4)).alloc (.cells #[.slice a l.length cap] 27)).heap[w.heap.size + 1]? = some (.cells #[.int .i64 0] 30 (0, 0)) := by
      rw [Below.heap_alloc _ _ _ (by simp; omega), Below.heap_alloc _ _ _ h8]; exact H7.out
    have i5 : ((w2.alloc (.cells #[.bool false] 4)).alloc (.cells #[.slice a l.length cap] 27)).heap[w.heap.size]? = some (.cells #[.string v, .int .u64 key, .int .i64 serial, .int .i64 size, .string bv, .int .i64 bs, .slice a l.length cap] 29 (0, 0)) := by
      rw [Below.heap_alloc _ _ _ (by simp; omega), Below.heap_alloc _ _ _ h9]; exact H6.out
    have i3 : ((w2.alloc (.cells #[.bool false] 4)).alloc (.cells #[.slice a l.length cap] 27)).cell? ⟨w2.heap.size + 1, 0, none⟩ = some (.slice a l.length cap) := by
      rw [World.cell?_alloc_at (hn := by simp)]; rfl
    have i4 : ((w2.alloc (.cells #[.bool false] 4)).alloc (.cells #[.slice a l.length cap] 27)).heap.size = w2.heap.size + 2 := by simp
    have hsb : ∀ b off, a = some ⟨b, off, none⟩ → 0 < l.length → b < w.heap.size := by
      intro b off hab hpos
      obtain ⟨b', off', e, hc, _⟩ := HCS.out 0 hpos
      rw [hab] at e
      simp only [Option.some.injEq, Addr.mk.injEq] at e
      obtain ⟨rfl, rfl, _⟩ := e
      exact World.block_lt_of_cell? _ _ hc
    obtain ⟨W0, hW0⟩ : ∃ W0, W0 = ((w2.alloc (.cells #[.bool false] 4)).alloc (.cells #[.slice a l.length cap] 27)) := ⟨_, rfl⟩
    rw [← hW0] at i1 i2 i3 i4 i5 hb0 hS0 ⊢
    refine wpIn_rangeFunc_X (gf := 84) (lb := #[.pointer (some ⟨w2.heap.size + 1, 0, none⟩)]) rfl (enters_of Try.func84 (by kernel_rfl) rfl)
      (pairs_seq (w2.heap.size + 1) cap a l W0 hlen i3 hS0) ?_ (fun _ => rfl) (fun k => k = w2.heap.size ∨ k = w.heap.size + 1) ?_
      (fun pre W => (∀ p ∈ pre, nameBad p = false) ∧ W.heap[w2.heap.size]? = some (.cells #[.bool (false && pre.all numsOk)] 4 (0, 0)) ∧ W.heap[w.heap.size + 1]? = some (.cells #[.int .i64 0] 30 (0, 0)) ∧ Below w.heap.size w W ∧ W.heap[w.heap.size]? = some (.cells #[.string v, .int .u64 key, .int .i64 serial, .int .i64 size, .string bv, .int .i64 bs, .slice a l.length cap] 29 (0, 0)))
      (fun c pre W => c = .ret ∧ (∃ p ∈ pre, nameBad p = true) ∧ W.heap[w.heap.size + 1]? = some (.cells #[.int .i64 1] 30 (0, 0)) ∧ Below w.heap.size w W)
      ?_ ?_ ⟨by simp, i1, i2, hb0, i5⟩
      (fun T pre x a' W => ∃ b1 b2, a' = { tmps := (((T.setIfInBounds 34 x.1.val).setIfInBounds 35 x.2.val).setIfInBounds 4 (.pointer (some ⟨b1, 0, none⟩))).setIfInBounds 5 (.pointer (some ⟨b2, 0, none⟩)), defers := [] } ∧
        W.heap[b1]? = some (.cells #[.string x.1.name, .int .i64 x.1.seq, .int .i64 x.1.upto] 56 (0, 0)) ∧ W.heap[b2]? = some (.cells #[.string x.2.name, .int .i64 x.2.seq, .int .i64 x.2.upto] 56 (0, 0)) ∧ w2.heap.size + 4 ≤ b1 ∧ w2.heap.size + 4 ≤ b2)
      ?_ ?assign ?body ?done ?stop
    · intro k hk
      exact ⟨by omega, fun b off hpos hab => by have := hsb b off hab hpos; omega⟩
    · rintro k (rfl | rfl)
      · exact ⟨⟨by omega, fun b off hpos hab => by have := hsb b off hab hpos; omega⟩, by omega⟩
      · exact ⟨⟨by omega, fun b off hpos hab => by have := hsb b off hab hpos; omega⟩, by omega⟩
    · rintro s A B ⟨j1, j2, j3, j4, j5⟩ hAB
      exact ⟨j1, (hAB.block _ (by omega)).trans j2, (hAB.block _ (by omega)).trans j3, j4.trans (hAB.mono (by omega)), (hAB.block _ (by omega)).trans j5⟩
    · rintro c s A B ⟨j1, j2, j3, j4⟩ hAB
      exact ⟨j1, j2, (hAB.block _ (by omega)).trans j3, j4.trans (hAB.mono (by omega))⟩
    · rintro T pre x a' A B ⟨b1, b2, j1, j2, j3, j4, j5⟩ hk
      exact ⟨b1, b2, j1, (hk _ (by omega)).trans j2, (hk _ (by omega)).trans j3, j4, j5⟩
    case assign =>
      intro pre x W K hi hsz hK
      simp only [Snp.val]
      gi_wp2
      exact hK _ _ (((Below.refl _ W).alloc (Nat.le_refl _) _).alloc (by simp) _) ⟨W.heap.size, W.heap.size + 1, rfl, by rw [Below.heap_alloc _ _ _ (by simp)]; exact heap_alloc_new W _,
        by have := heap_alloc_new (W.alloc (.cells #[.string x.1.name, .int .i64 x.1.seq, .int .i64 x.1.upto] 56)) (.cells #[.string x.2.name, .int .i64 x.2.seq, .int .i64 x.2.upto] 56); rwa [World.size_alloc] at this, by omega, by omega⟩
    case body =>
      rintro pre x a' W ⟨j1, j2, j3, j4, j5⟩ hlp hsz ⟨b1, b2, rfl, k1, k2, k3, k4⟩
      simp only [List.setIfInBounds_toArray, List.set_cons_succ, List.set_cons_zero, Snp.val]
      have c1 := cell_of_heap k1 0
      have d0 := cell_of_heap k2 0
      have d1 := cell_of_heap k2 1
      have d2' := cell_of_heap k2 2
      have e0 := cell_of_heap j2 0
      have e1 := frozen_of_heap j2 0
      have g0 := cell_of_heap j3 0
      have g1 := frozen_of_heap j3 0
      simp only [List.getElem?_toArray, List.getElem?_cons_zero, List.getElem?_cons_succ] at c1 d0 d1 d2' e0 g0
      have J1 := Lib.hid j1
      have J2 := Lib.hid j2
      have J3 := Lib.hid j3
      have J4 := Lib.hid j4
      have J5 := Lib.hid j5
      clear j1 j2 j3 j4 j5 k1 k2
      cases hc : (Op.bytesLess x.2.name.toList x.1.name.toList || x.2.name.toList == x.1.name.toList) with
      | true =>
        have HX : Hid (nameBad x = true) := by show _ = _; unfold nameBad; rw [hc]; rfl
        gi_wp2
        exact ⟨KeepsBut.setCell W (p := ⟨w.heap.size + 1, 0, none⟩) (.inr rfl) _, rfl, ⟨x, by simp, HX.out⟩, by rw [heap_setCell_same W _ 0 _ 30 _ J3.out]; rfl, J4.out.setCell (p := ⟨w.heap.size + 1, 0, none⟩) (by simp) _⟩
      | false =>
        by_cases h64 : 64 < x.2.name.size
        · have HX : Hid (nameBad x = true) := by show _ = _; unfold nameBad; rw [hc, decide_eq_true h64]; rfl
          gi_wp2
          exact ⟨KeepsBut.setCell W (p := ⟨w.heap.size + 1, 0, none⟩) (.inr rfl) _, rfl, ⟨x, by simp, HX.out⟩, by rw [heap_setCell_same W _ 0 _ 30 _ J3.out]; rfl, J4.out.setCell (p := ⟨w.heap.size + 1, 0, none⟩) (by simp) _⟩
        · have HX : Hid (nameBad x = false) := by show _ = _; unfold nameBad; rw [hc, decide_eq_false h64]; rfl
          have hgoods : ∀ p ∈ pre ++ [x], nameBad p = false := by
            intro p hp
            rcases List.mem_append.1 hp with h | h
            · exact J1.out p h
            · simp only [List.mem_singleton] at h; rw [h]; exact HX.out
          have HG := Lib.hid hgoods
          clear hgoods
          have hst : ∀ (A : Act) (r : Bool), r = (false && (pre ++ [x]).all numsOk) →
              ownPostX (fun k => k = w2.heap.size ∨ k = w.heap.size + 1)
                (fun pre W => (∀ p ∈ pre, nameBad p = false) ∧ W.heap[w2.heap.size]? = some (.cells #[.bool (false && pre.all numsOk)] 4 (0, 0)) ∧ W.heap[w.heap.size + 1]? = some (.cells #[.int .i64 0] 30 (0, 0)) ∧ Below w.heap.size w W ∧ W.heap[w.heap.size]? = some (.cells #[.string v, .int .u64 key, .int .i64 serial, .int .i64 size, .string bv, .int .i64 bs, .slice a l.length cap] 29 (0, 0)))
                (fun c pre W => c = .ret ∧ (∃ p ∈ pre, nameBad p = true) ∧ W.heap[w.heap.size + 1]? = some (.cells #[.int .i64 1] 30 (0, 0)) ∧ Below w.heap.size w W)
                (pre ++ [x]) W Exit.normal A (W.setCell ⟨w2.heap.size, 0, none⟩ (.bool r)) := by
            intro A r hr
            refine ⟨KeepsBut.setCell W (p := ⟨w2.heap.size, 0, none⟩) (.inl rfl) _, HG.out, ?_, ?_, J4.out.setCell (p := ⟨w2.heap.size, 0, none⟩) (by simp; omega) _, ?_⟩
            · rw [heap_setCell_same W _ 0 _ 4 _ J2.out, hr]; rfl
            · rw [Below.heap_setCell _ _ _ _ (by show w.heap.size + 1 ≠ w2.heap.size; omega)]; exact J3.out
            · rw [Below.heap_setCell _ _ _ _ (by show w.heap.size ≠ w2.heap.size; omega)]; exact J5.out
          have HST := Lib.hid hst
          clear hst
          have hall : (false && (pre ++ [x]).all numsOk) = false := rfl
          have HA := Lib.hid hall
          have hr : (false && pre.all numsOk) = false := rfl
          rw [hr] at e0
          clear hr hall
          gi_wp2
          exact HST.out _ _ HA.out.symm
    case done =>
      rintro D ys W hD rfl ⟨j1, j2, j3, j4, j5⟩ hK
      have e0 := cell_of_heap j2 0
      have g0 := cell_of_heap j3 0
      have g1 := frozen_of_heap j3 0
      have m6 := cell_of_heap j5 6
      simp only [List.getElem?_toArray, List.getElem?_cons_zero, List.getElem?_cons_succ] at e0 g0 m6
      have J1 := Lib.hid j1
      have J3 := Lib.hid j3
      have J4 := Lib.hid j4
      have HK := Lib.hid hK
      have hfin : ∀ n : Int, (W.setCell ⟨w.heap.size + 1, 0, none⟩ (.int .i64 n)).heap[D]? = some (.deferred (some [])) ∧
          ((W.setCell ⟨w.heap.size + 1, 0, none⟩ (.int .i64 n)).putObj D (.deferred none)).cell? ⟨w.heap.size + 1, 0, none⟩ = some (.int .i64 n) ∧
          Below w.heap.size w ((W.setCell ⟨w.heap.size + 1, 0, none⟩ (.int .i64 n)).putObj D (.deferred none)) := by
        intro n
        refine ⟨?_, ?_, below_putObj (J4.out.setCell (p := ⟨w.heap.size + 1, 0, none⟩) (by simp) _) (by omega) _⟩
        · rw [Below.heap_setCell _ _ _ _ (by show D ≠ w.heap.size + 1; omega)]; exact HK.out
        · have := heap_setCell_same W (w.heap.size + 1) 0 _ 30 (.int .i64 n) J3.out
          have h2 : ((W.setCell ⟨w.heap.size + 1, 0, none⟩ (.int .i64 n)).putObj D (.deferred none)).heap[w.heap.size + 1]? = some (.cells #[.int .i64 n] 30 (0, 0)) := by
            rw [World.putObj_heap_other (by omega)]; exact this
          simp [World.cell?, h2]
      have HF := Lib.hid hfin
      have hany : (prs l l.length).any nameBad = false := by rw [List.any_eq_false]; intro p hp; rw [J1.out p hp]; simp
      have HANY := Lib.hid hany
      clear j1 j2 j3 j4 j5 hK hfin hany
      have hr : (false && (prs l l.length).all numsOk) = false := rfl
      rw [hr] at e0
      have HC : Hid (chk ⟨v, key, serial, size, bv, bs, l⟩ = 31) := by
        show _ = _
        unfold chk
        dsimp only
        rw [HVOL.out, HMAY.out, if_neg (by simp), if_neg (by rw [HANY.out]; simp), HR.out, if_pos hr]
      clear hr
      gi_wp2
      exact leaveD (HF.out 31).1 (res33 (HF.out 31).2.1 _ rfl) ⟨by rw [HC.out], (HF.out 31).2.2⟩
    case stop =>
      rintro D c pre W hD ⟨k, hk, rfl⟩ ⟨rfl, ⟨p, hp, hbad⟩, j3, j4⟩ hK
      have HC : Hid (chk ⟨v, key, serial, size, bv, bs, l⟩ = 1) := by
        show _ = _
        unfold chk
        dsimp only
        rw [HVOL.out, HMAY.out, if_neg (by simp), if_pos (List.any_eq_true.2 ⟨p, prs_mem l k _ hk p hp, hbad⟩)]
      have J3 := Lib.hid j3
      have J4 := Lib.hid j4
      have HK := Lib.hid hK
      clear hp hbad j3 j4 hK
      gi_wp2
      have h2 : (W.putObj D (.deferred none)).cell? ⟨w.heap.size + 1, 0, none⟩ = some (.int .i64 1) := by
        have h3 : (W.putObj D (.deferred none)).heap[w.heap.size + 1]? = some (.cells #[.int .i64 1] 30 (0, 0)) := by
          rw [World.putObj_heap_other (by omega)]; exact J3.out
        simp [World.cell?, h3]
      exact leaveD HK.out (res33 h2 _ rfl) ⟨by rw [HC.out], below_putObj J4.out (by omega) _⟩

end Go.Proofs.Ytmkcphelmgkipaa
