import Derived.Test.YtmkcphelmgkipaaT14
set_option linter.unusedVariables false
set_option linter.unusedSimpArgs false
namespace Go.Proofs.Ytmkcphelmgkipaa
open Go.RowKit

theorem isEmpty_iff (s : ByteArray) : s.toList.isEmpty = decide (s.data.toList = []) := by
  rw [ByteArray.toList_eq]; cases s.data.toList <;> simp

set_option maxHeartbeats 4000000 in
set_option maxRecDepth 100000 in
theorem rcheck_any (m : Man) (sv : Value) (w : World) (hf : Fits m) (hS : SnapsAt w sv m.snaps) :
    Calls Try.prog 16 #[m.val sv] w fun e w' => e = .returned (.int .i64 (chk m)) ∧ Below w.heap.size w w' := by
  have hB : Below w.heap.size w (w.alloc (.cells #[.string m.vol, .int .u64 m.key, .int .i64 m.serial, .int .i64 m.size, .string m.bvol, .int .i64 m.bseq, sv] 35)) := (Below.refl _ w).alloc (Nat.le_refl _) _
  have HB := Lib.hid hB
  clear hB
  cases hv : vol m.vol.data.toList with
  | false =>
    have HC := Lib.hid (chk_one m (by rw [hv]; rfl))
    obtain ⟨v, key, serial, size, bv, bs, l⟩ := m
    obtain ⟨hvs, hbv, hlen, hnames⟩ := hf
    simp only [Man.val] at *
    go_enter Try.func16, Try.ntmps16
    go_wp2_with fail
    refine (rvolume_any v _ hvs).mono ?_
    rintro e w' ⟨rfl, rfl⟩
    rw [hv]
    clear hv
    go_wp2
    go_ret
    exact ⟨by rw [HC.out]; rfl, HB.out⟩
  | true =>
    cases hm : mayB m.bvol m.bseq m.vol with
    | false =>
      have HC := Lib.hid (chk_one m (by rw [hv, hm]; rfl))
      -- why not
      have hcase : (m.bvol.toList.isEmpty = true ∧ (m.bseq != 0) = true) ∨ (m.bvol.toList.isEmpty = false ∧ vol m.bvol.data.toList = false) ∨ (m.bvol.toList.isEmpty = false ∧ vol m.bvol.data.toList = true ∧ (m.bvol.toList == m.vol.toList) = true) ∨
          (m.bvol.toList.isEmpty = false ∧ vol m.bvol.data.toList = true ∧ (m.bvol.toList == m.vol.toList) = false ∧ nump m.bseq = false) := by
        rw [beq_toList, isEmpty_iff]
        unfold mayB at hm
        by_cases h1 : m.bvol.data.toList = []
        · rw [h1] at hm ⊢
          by_cases h2 : m.bseq = 0
          · simp [h2] at hm
          · left; simp [h2]
        · right
          cases h2 : vol m.bvol.data.toList with
          | false => left; simp [h1]
          | true =>
            right
            by_cases h3 : m.bvol = m.vol
            · left; exact ⟨decide_eq_false h1, rfl, decide_eq_true h3⟩
            · right
              simp only [h1, h2, h3, decide_false, Bool.false_and, Bool.false_or, Bool.true_and, ne_eq, not_false_eq_true, decide_true] at hm
              exact ⟨by simp [h1], rfl, by simp [h3], hm⟩
      clear hm
      obtain ⟨v, key, serial, size, bv, bs, l⟩ := m
      obtain ⟨hvs, hbv, hlen, hnames⟩ := hf
      simp only [Man.val] at *
      have HV := Lib.hid hv
      clear hv
      rcases hcase with ⟨a1, a2⟩ | ⟨a1, a2⟩ | ⟨a1, a2, a3⟩ | ⟨a1, a2, a3, a4⟩
      · go_enter Try.func16, Try.ntmps16
        go_wp2_with fail
        refine (rvolume_any v _ hvs).mono ?_
        rintro e w' ⟨rfl, rfl⟩
        rw [HV.out]
        go_wp2
        go_ret
        exact ⟨by rw [HC.out]; rfl, HB.out⟩
      · have A2 := Lib.hid a2
        clear a2
        go_enter Try.func16, Try.ntmps16
        go_wp2_with fail
        refine (rvolume_any v _ hvs).mono ?_
        rintro e w' ⟨rfl, rfl⟩
        rw [HV.out]
        go_wp2_with fail
        refine (rvolume_any bv _ hbv).mono ?_
        rintro e w' ⟨rfl, rfl⟩
        rw [A2.out]
        go_wp2
        go_ret
        exact ⟨by rw [HC.out]; rfl, HB.out⟩
      · have A2 := Lib.hid a2
        clear a2
        go_enter Try.func16, Try.ntmps16
        go_wp2_with fail
        refine (rvolume_any v _ hvs).mono ?_
        rintro e w' ⟨rfl, rfl⟩
        rw [HV.out]
        go_wp2_with fail
        refine (rvolume_any bv _ hbv).mono ?_
        rintro e w' ⟨rfl, rfl⟩
        rw [A2.out]
        go_wp2
        go_ret
        exact ⟨by rw [HC.out]; rfl, HB.out⟩
      · have A2 := Lib.hid a2
        have A4 := Lib.hid a4
        clear a2 a4
        go_enter Try.func16, Try.ntmps16
        go_wp2_with fail
        refine (rvolume_any v _ hvs).mono ?_
        rintro e w' ⟨rfl, rfl⟩
        rw [HV.out]
        go_wp2_with fail
        refine (rvolume_any bv _ hbv).mono ?_
        rintro e w' ⟨rfl, rfl⟩
        rw [A2.out]
        go_wp2_with fail
        refine (rnumber_any bs _).mono ?_
        rintro e w' ⟨rfl, rfl⟩
        rw [A4.out]
        go_wp2
        go_ret
        exact ⟨by rw [HC.out]; rfl, HB.out⟩
    | true =>
      have h0 : (vol m.vol.data.toList && mayB m.bvol m.bseq m.vol) = true := by rw [hv, hm]; rfl
      have H0 := Lib.hid h0
      have hcase : (m.bvol.toList.isEmpty = true ∧ (m.bseq != 0) = false ∧ True ∧ True) ∨
          (m.bvol.toList.isEmpty = false ∧ vol m.bvol.data.toList = true ∧ (m.bvol.toList == m.vol.toList) = false ∧ nump m.bseq = true) := by
        rw [beq_toList, isEmpty_iff]
        unfold mayB at hm
        by_cases h1 : m.bvol.data.toList = []
        · left
          rw [h1] at hm ⊢
          have : vol [] = false := rfl
          rw [this] at hm
          simp at hm
          simp [hm]
        · right
          simp only [h1, decide_false, Bool.false_and, Bool.false_or, Bool.and_eq_true, decide_eq_true_eq] at hm
          exact ⟨decide_eq_false h1, hm.1.1, decide_eq_false hm.1.2, hm.2⟩
      clear hm h0
      have hright : (nump m.serial = true ∧ decide (m.size < 1) = false ∧ decide (65536 < m.size) = false ∧ Hid (right0 m = true)) ∨ (nump m.serial = true ∧ decide (m.size < 1) = false ∧ decide (65536 < m.size) = true ∧ Hid (right0 m = false)) ∨ (nump m.serial = true ∧ decide (m.size < 1) = true ∧ True ∧ Hid (right0 m = false)) ∨ (nump m.serial = false ∧ True ∧ True ∧ Hid (right0 m = false)) := by
        have e1 : decide (m.size < 1) = !decide (1 ≤ m.size) := by rw [← decide_not]; simp
        have e2 : decide (65536 < m.size) = !decide (m.size ≤ 65536) := by rw [← decide_not]; simp
        rw [e1, e2]
        unfold right0 Hid
        cases nump m.serial with
        | false => simp
        | true =>
          cases decide (1 ≤ m.size) with
          | false => simp
          | true =>
            cases decide (m.size ≤ 65536) with
            | false => simp
            | true => simp
      have hcs := hS.below ((Below.refl _ w).alloc (Nat.le_refl _) (.cells #[.string m.vol, .int .u64 m.key, .int .i64 m.serial, .int .i64 m.size, .string m.bvol, .int .i64 m.bseq, sv] 35)) (Nat.le_refl _)
      obtain ⟨a, cap, rfl, hcs⟩ := hcs
      obtain ⟨M, hM⟩ : ∃ M : Man, M = m := ⟨_, rfl⟩
      have H0' : Hid ((vol M.vol.data.toList && mayB M.bvol M.bseq M.vol) = true) := by rw [hM]; exact H0
      have HR0 : right0 M = right0 m := by rw [hM]
      have HSN : M.snaps = m.snaps := by rw [hM]
      obtain ⟨v, key, serial, size, bv, bs, l⟩ := m
      obtain ⟨hvs, hbv, hlen, hnames⟩ := hf
      simp only [Man.val] at *
      have HCS := Lib.hid hcs
      have HNM := Lib.hid hnames
      have HV := Lib.hid hv
      clear hv hS hcs hnames H0
      rcases hcase with ⟨a1, a2, a3, a4⟩ | ⟨a1, a2, a3, a4⟩
      · go_enter Try.func16, Try.ntmps16
        go_wp2_with fail
        refine (rvolume_any v _ hvs).mono ?_
        rintro e w' ⟨rfl, rfl⟩
        rw [HV.out]
        go_wp2
        go_loop [3] (fun i => ∃ k : Nat, i = .int .i64 k ∧ k ≤ l.length ∧ Hid (∀ p ∈ prs l k, nameBad p = false)) (fun i => l.length - (intOf i).toNat)
        case atStart => exact ⟨0, rfl, by omega, by intro p hp; simp [prs] at hp⟩
        case round =>
          obtain ⟨k, rfl, hk, HG⟩ := hrel
          by_cases hlt : k < l.length
          · obtain ⟨b, off, hab, hc0, hc1, hc2⟩ := HCS.out k hlt
            clear hc1 hc2
            have HN1 : Hid (nameBad (ahead l k, l.getD k Snp.zero) = true → chk M = 1) := fun h => chk_names H0' k (by rw [HSN]; exact hlt) (by rw [HSN]; exact h)
            have HGS : Hid (nameBad (ahead l k, l.getD k Snp.zero) = false → ∀ p ∈ prs l (k + 1), nameBad p = false) := by
              intro h p hp
              rw [prs_succ] at hp
              rcases List.mem_append.1 hp with h2 | h2
              · exact HG.out p h2
              · simp only [List.mem_singleton] at h2; rw [h2]; exact h
            obtain ⟨x, hx⟩ : ∃ x, x = l.getD k Snp.zero := ⟨_, rfl⟩
            rw [← hx] at hc0 HN1 HGS
            have HXE := Lib.hid hx
            clear hx
            have HAB := Lib.hid hab
            subst hab
            cases he : x.name.toList.isEmpty with
            | true =>
              have HC := Lib.hid (HN1.out (nameBad_empty he))
              go_wp2
              go_ret
              exact ⟨by rw [← hM, HC.out]; rfl, HB.out⟩
            | false =>
              by_cases h64 : 64 < x.name.size
              · have HC := Lib.hid (HN1.out (nameBad_long h64))
                go_wp2
                go_ret
                exact ⟨by rw [← hM, HC.out]; rfl, HB.out⟩
              · by_cases hk0 : k = 0
                · have HZ := Lib.hid (HGS.out (nameBad_first he (by rw [hk0]; rfl) h64))
                  have hk1 : ¬ 0 < k := by omega
                  clear hk0
                  go_wp2
                  go_round
                  case rel => exact ⟨k + 1, by go_num, by omega, HZ⟩
                  case measure => simp [intOf]; omega
                · obtain ⟨b', off', hab', hd0, hd1, hd2⟩ := HCS.out (k - 1) (by omega)
                  simp only [Option.some.injEq, Addr.mk.injEq] at hab'
                  obtain ⟨rfl, rfl, _⟩ := hab'
                  clear hd1 hd2
                  have hah : ahead l k = l.getD (k - 1) Snp.zero := if_neg hk0
                  rw [hah] at HN1 HGS
                  obtain ⟨px, hpx⟩ : ∃ px, px = l.getD (k - 1) Snp.zero := ⟨_, rfl⟩
                  rw [← hpx] at hd0 HN1 HGS
                  clear hpx hah
                  cases hbl : Op.bytesLess px.name.toList x.name.toList with
                  | false =>
                    have HC := Lib.hid (HN1.out (nameBad_less hbl))
                    go_wp2
                    go_ret
                    exact ⟨by rw [← hM, HC.out]; rfl, HB.out⟩
                  | true =>
                    have HZ := Lib.hid (HGS.out (nameBad_not hbl h64))
                    go_wp2
                    go_round
                    case rel => exact ⟨k + 1, by go_num, by omega, HZ⟩
                    case measure => simp [intOf]; omega
          · obtain rfl : k = l.length := by omega
            have HGM : Hid (∀ p ∈ prs M.snaps M.snaps.length, nameBad p = false) := by rw [HSN]; exact HG
            rcases hright with ⟨n1, n2, n3, HR⟩ | ⟨n1, n2, n3, HR⟩ | ⟨n1, n2, n3, HR⟩ | ⟨n1, n2, n3, HR⟩
            · have N1 := Lib.hid n1
              clear n1
              go_wp2_with fail
              refine (rnumber_any serial _).mono ?_
              rintro e w' ⟨rfl, rfl⟩
              rw [N1.out]
              go_wp2
              go_loop [5] (fun i => ∃ k : Nat, i = .int .i64 k ∧ k ≤ l.length ∧ Hid (∀ p ∈ prs l k, numsOk p = true)) (fun i => l.length - (intOf i).toNat)
              case atStart => exact ⟨0, rfl, by omega, by intro p hp; simp [prs] at hp⟩
              case round =>
                obtain ⟨k, rfl, hk, HQ⟩ := hrel
                by_cases hlt : k < l.length
                · obtain ⟨b, off, hab, hc0, hc1, hc2⟩ := HCS.out k hlt
                  clear hc0
                  have HN1 : Hid (numsOk (ahead l k, l.getD k Snp.zero) = false → chk M = 31) := fun h => chk_nums H0' HGM k (by rw [HSN]; exact hlt) (by rw [HSN]; exact h)
                  have HGS : Hid (numsOk (ahead l k, l.getD k Snp.zero) = true → ∀ p ∈ prs l (k + 1), numsOk p = true) := by
                    intro h p hp
                    rw [prs_succ] at hp
                    rcases List.mem_append.1 hp with h2 | h2
                    · exact HQ.out p h2
                    · simp only [List.mem_singleton] at h2; rw [h2]; exact h
                  obtain ⟨x, hx⟩ : ∃ x, x = l.getD k Snp.zero := ⟨_, rfl⟩
                  rw [← hx] at hc1 hc2 HN1 HGS
                  clear hx
                  have HAB := Lib.hid hab
                  subst hab
                  cases hs1 : nump x.seq with
                  | false =>
                    have HC := Lib.hid (HN1.out (by unfold numsOk; rw [hs1]; rfl))
                    go_wp2_with fail
                    refine (rnumber_any x.seq _).mono ?_
                    rintro e w' ⟨rfl, rfl⟩
                    rw [hs1]
                    clear hs1
                    go_wp2
                    go_ret
                    exact ⟨by rw [← hM, HC.out]; rfl, HB.out⟩
                  | true =>
                    cases hs2 : nump x.upto with
                    | false =>
                      have HC := Lib.hid (HN1.out (by unfold numsOk; rw [hs1, hs2]; rfl))
                      go_wp2_with fail
                      refine (rnumber_any x.seq _).mono ?_
                      rintro e w' ⟨rfl, rfl⟩
                      rw [hs1]
                      clear hs1
                      go_wp2_with fail
                      refine (rnumber_any x.upto _).mono ?_
                      rintro e w' ⟨rfl, rfl⟩
                      rw [hs2]
                      clear hs2
                      go_wp2
                      go_ret
                      exact ⟨by rw [← hM, HC.out]; rfl, HB.out⟩
                    | true =>
                      have HZ := Lib.hid (HGS.out (by unfold numsOk; rw [hs1, hs2]; rfl))
                      go_wp2_with fail
                      refine (rnumber_any x.seq _).mono ?_
                      rintro e w' ⟨rfl, rfl⟩
                      rw [hs1]
                      clear hs1
                      go_wp2_with fail
                      refine (rnumber_any x.upto _).mono ?_
                      rintro e w' ⟨rfl, rfl⟩
                      rw [hs2]
                      clear hs2
                      go_wp2
                      go_round
                      case rel => exact ⟨k + 1, by go_num, by omega, HZ⟩
                      case measure => simp [intOf]; omega
                · obtain rfl : k = l.length := by omega
                  have HC : Hid (chk M = if 100 < l.length then 32 else 0) := by rw [← HSN]; exact chk_full H0' HGM (by rw [HR0]; exact HR) (by rw [HSN]; exact HQ)
                  by_cases h100 : 100 < l.length
                  · go_wp2
                    go_ret
                    exact ⟨by rw [← hM, HC.out, if_pos h100]; rfl, HB.out⟩
                  · go_wp2
                    go_ret
                    exact ⟨by rw [← hM, HC.out, if_neg h100]; rfl, HB.out⟩
            all_goals
              have N1 := Lib.hid n1
              have HC := Lib.hid (chk_range H0' HGM (by rw [HR0]; exact HR))
              clear n1
              go_wp2_with fail
              refine (rnumber_any serial _).mono ?_
              rintro e w' ⟨rfl, rfl⟩
              rw [N1.out]
              go_wp2
              go_ret
              exact ⟨by rw [← hM, HC.out]; rfl, HB.out⟩
      · have A2 := Lib.hid a2
        have A4 := Lib.hid a4
        clear a2 a4
        go_enter Try.func16, Try.ntmps16
        go_wp2_with fail
        refine (rvolume_any v _ hvs).mono ?_
        rintro e w' ⟨rfl, rfl⟩
        rw [HV.out]
        go_wp2_with fail
        refine (rvolume_any bv _ hbv).mono ?_
        rintro e w' ⟨rfl, rfl⟩
        rw [A2.out]
        go_wp2_with fail
        refine (rnumber_any bs _).mono ?_
        rintro e w' ⟨rfl, rfl⟩
        rw [A4.out]
        go_wp2
        go_loop [3] (fun i => ∃ k : Nat, i = .int .i64 k ∧ k ≤ l.length ∧ Hid (∀ p ∈ prs l k, nameBad p = false)) (fun i => l.length - (intOf i).toNat)
        case atStart => exact ⟨0, rfl, by omega, by intro p hp; simp [prs] at hp⟩
        case round =>
          obtain ⟨k, rfl, hk, HG⟩ := hrel
          by_cases hlt : k < l.length
          · obtain ⟨b, off, hab, hc0, hc1, hc2⟩ := HCS.out k hlt
            clear hc1 hc2
            have HN1 : Hid (nameBad (ahead l k, l.getD k Snp.zero) = true → chk M = 1) := fun h => chk_names H0' k (by rw [HSN]; exact hlt) (by rw [HSN]; exact h)
            have HGS : Hid (nameBad (ahead l k, l.getD k Snp.zero) = false → ∀ p ∈ prs l (k + 1), nameBad p = false) := by
              intro h p hp
              rw [prs_succ] at hp
              rcases List.mem_append.1 hp with h2 | h2
              · exact HG.out p h2
              · simp only [List.mem_singleton] at h2; rw [h2]; exact h
            obtain ⟨x, hx⟩ : ∃ x, x = l.getD k Snp.zero := ⟨_, rfl⟩
            rw [← hx] at hc0 HN1 HGS
            have HXE := Lib.hid hx
            clear hx
            have HAB := Lib.hid hab
            subst hab
            cases he : x.name.toList.isEmpty with
            | true =>
              have HC := Lib.hid (HN1.out (nameBad_empty he))
              go_wp2
              go_ret
              exact ⟨by rw [← hM, HC.out]; rfl, HB.out⟩
            | false =>
              by_cases h64 : 64 < x.name.size
              · have HC := Lib.hid (HN1.out (nameBad_long h64))
                go_wp2
                go_ret
                exact ⟨by rw [← hM, HC.out]; rfl, HB.out⟩
              · by_cases hk0 : k = 0
                · have HZ := Lib.hid (HGS.out (nameBad_first he (by rw [hk0]; rfl) h64))
                  have hk1 : ¬ 0 < k := by omega
                  clear hk0
                  go_wp2
                  go_round
                  case rel => exact ⟨k + 1, by go_num, by omega, HZ⟩
                  case measure => simp [intOf]; omega
                · obtain ⟨b', off', hab', hd0, hd1, hd2⟩ := HCS.out (k - 1) (by omega)
                  simp only [Option.some.injEq, Addr.mk.injEq] at hab'
                  obtain ⟨rfl, rfl, _⟩ := hab'
                  clear hd1 hd2
                  have hah : ahead l k = l.getD (k - 1) Snp.zero := if_neg hk0
                  rw [hah] at HN1 HGS
                  obtain ⟨px, hpx⟩ : ∃ px, px = l.getD (k - 1) Snp.zero := ⟨_, rfl⟩
                  rw [← hpx] at hd0 HN1 HGS
                  clear hpx hah
                  cases hbl : Op.bytesLess px.name.toList x.name.toList with
                  | false =>
                    have HC := Lib.hid (HN1.out (nameBad_less hbl))
                    go_wp2
                    go_ret
                    exact ⟨by rw [← hM, HC.out]; rfl, HB.out⟩
                  | true =>
                    have HZ := Lib.hid (HGS.out (nameBad_not hbl h64))
                    go_wp2
                    go_round
                    case rel => exact ⟨k + 1, by go_num, by omega, HZ⟩
                    case measure => simp [intOf]; omega
          · obtain rfl : k = l.length := by omega
            have HGM : Hid (∀ p ∈ prs M.snaps M.snaps.length, nameBad p = false) := by rw [HSN]; exact HG
            rcases hright with ⟨n1, n2, n3, HR⟩ | ⟨n1, n2, n3, HR⟩ | ⟨n1, n2, n3, HR⟩ | ⟨n1, n2, n3, HR⟩
            · have N1 := Lib.hid n1
              clear n1
              go_wp2_with fail
              refine (rnumber_any serial _).mono ?_
              rintro e w' ⟨rfl, rfl⟩
              rw [N1.out]
              go_wp2
              go_loop [5] (fun i => ∃ k : Nat, i = .int .i64 k ∧ k ≤ l.length ∧ Hid (∀ p ∈ prs l k, numsOk p = true)) (fun i => l.length - (intOf i).toNat)
              case atStart => exact ⟨0, rfl, by omega, by intro p hp; simp [prs] at hp⟩
              case round =>
                obtain ⟨k, rfl, hk, HQ⟩ := hrel
                by_cases hlt : k < l.length
                · obtain ⟨b, off, hab, hc0, hc1, hc2⟩ := HCS.out k hlt
                  clear hc0
                  have HN1 : Hid (numsOk (ahead l k, l.getD k Snp.zero) = false → chk M = 31) := fun h => chk_nums H0' HGM k (by rw [HSN]; exact hlt) (by rw [HSN]; exact h)
                  have HGS : Hid (numsOk (ahead l k, l.getD k Snp.zero) = true → ∀ p ∈ prs l (k + 1), numsOk p = true) := by
                    intro h p hp
                    rw [prs_succ] at hp
                    rcases List.mem_append.1 hp with h2 | h2
                    · exact HQ.out p h2
                    · simp only [List.mem_singleton] at h2; rw [h2]; exact h
                  obtain ⟨x, hx⟩ : ∃ x, x = l.getD k Snp.zero := ⟨_, rfl⟩
                  rw [← hx] at hc1 hc2 HN1 HGS
                  clear hx
                  have HAB := Lib.hid hab
                  subst hab
                  cases hs1 : nump x.seq with
                  | false =>
                    have HC := Lib.hid (HN1.out (by unfold numsOk; rw [hs1]; rfl))
                    go_wp2_with fail
                    refine (rnumber_any x.seq _).mono ?_
                    rintro e w' ⟨rfl, rfl⟩
                    rw [hs1]
                    clear hs1
                    go_wp2
                    go_ret
                    exact ⟨by rw [← hM, HC.out]; rfl, HB.out⟩
                  | true =>
                    cases hs2 : nump x.upto with
                    | false =>
                      have HC := Lib.hid (HN1.out (by unfold numsOk; rw [hs1, hs2]; rfl))
                      go_wp2_with fail
                      refine (rnumber_any x.seq _).mono ?_
                      rintro e w' ⟨rfl, rfl⟩
                      rw [hs1]
                      clear hs1
                      go_wp2_with fail
                      refine (rnumber_any x.upto _).mono ?_
                      rintro e w' ⟨rfl, rfl⟩
                      rw [hs2]
                      clear hs2
                      go_wp2
                      go_ret
                      exact ⟨by rw [← hM, HC.out]; rfl, HB.out⟩
                    | true =>
                      have HZ := Lib.hid (HGS.out (by unfold numsOk; rw [hs1, hs2]; rfl))
                      go_wp2_with fail
                      refine (rnumber_any x.seq _).mono ?_
                      rintro e w' ⟨rfl, rfl⟩
                      rw [hs1]
                      clear hs1
                      go_wp2_with fail
                      refine (rnumber_any x.upto _).mono ?_
                      rintro e w' ⟨rfl, rfl⟩
                      rw [hs2]
                      clear hs2
                      go_wp2
                      go_round
                      case rel => exact ⟨k + 1, by go_num, by omega, HZ⟩
                      case measure => simp [intOf]; omega
                · obtain rfl : k = l.length := by omega
                  have HC : Hid (chk M = if 100 < l.length then 32 else 0) := by rw [← HSN]; exact chk_full H0' HGM (by rw [HR0]; exact HR) (by rw [HSN]; exact HQ)
                  by_cases h100 : 100 < l.length
                  · go_wp2
                    go_ret
                    exact ⟨by rw [← hM, HC.out, if_pos h100]; rfl, HB.out⟩
                  · go_wp2
                    go_ret
                    exact ⟨by rw [← hM, HC.out, if_neg h100]; rfl, HB.out⟩
            all_goals
              have N1 := Lib.hid n1
              have HC := Lib.hid (chk_range H0' HGM (by rw [HR0]; exact HR))
              clear n1
              go_wp2_with fail
              refine (rnumber_any serial _).mono ?_
              rintro e w' ⟨rfl, rfl⟩
              rw [N1.out]
              go_wp2
              go_ret
              exact ⟨by rw [← hM, HC.out]; rfl, HB.out⟩
end Go.Proofs.Ytmkcphelmgkipaa
