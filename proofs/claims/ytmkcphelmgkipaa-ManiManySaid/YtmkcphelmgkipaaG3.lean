import Derived.Test.YtmkcphelmgkipaaG2
import Derived.Test.YtmkcphelmgkipaaG1
set_option linter.unusedVariables false
set_option linter.unusedSimpArgs false
namespace Go.Proofs.Ytmkcphelmgkipaa
open Go.RowKit

theorem check_any (m : Man) (sv : Value) (w : World) (hf : Fits m) (hS : SnapsAt w sv m.snaps) :
    Calls Try.prog 33 #[m.val sv] w fun e w' => e = .returned (.int .i64 (chk m)) ∧ Below w.heap.size w w' := by
  cases hv : vol m.vol.data.toList with
  | false => exact check_one m sv w hf (by rw [hv]; rfl)
  | true =>
    cases hm : mayB m.bvol m.bseq m.vol with
    | false => exact check_one m sv w hf (by rw [hv, hm]; rfl)
    | true => exact check_rest m sv w hf hS hv hm

theorem bl_total : ∀ a b : List UInt8, (!Op.bytesLess a b) = (Op.bytesLess b a || b == a)
  | [], [] => rfl
  | [], _ :: _ => by simp [Op.bytesLess]
  | _ :: _, [] => by simp [Op.bytesLess]
  | x :: a, y :: b => by
    have ih := bl_total a b
    simp only [Op.bytesLess]
    rcases Nat.lt_trichotomy x.toNat y.toNat with h | h | h
    · have h1 : x < y := UInt8.lt_iff_toNat_lt.2 h
      have h2 : ¬ y < x := fun h' => by have := UInt8.lt_iff_toNat_lt.1 h'; omega
      have h3 : (y == x) = false := by rw [beq_eq_false_iff_ne]; intro e; rw [e] at h; omega
      simp [h1, h2, h3, List.cons_beq_cons]
    · have e : x = y := UInt8.toNat_inj.1 h
      subst e
      have h2 : ¬ x < x := fun h' => by have := UInt8.lt_iff_toNat_lt.1 h'; omega
      simp only [h2, decide_false, BEq.rfl, Bool.true_and, Bool.false_or, List.cons_beq_cons]
      exact ih
    · have h1 : y < x := UInt8.lt_iff_toNat_lt.2 h
      have h2 : ¬ x < y := fun h' => by have := UInt8.lt_iff_toNat_lt.1 h'; omega
      have h3 : (x == y) = false := by rw [beq_eq_false_iff_ne]; intro e; rw [e] at h; omega
      simp [h1, h2, h3, List.cons_beq_cons]

theorem bl_empty (a : List UInt8) : Op.bytesLess a [] = false := by cases a <;> rfl

/-- The snapshot ahead of the k-th one. -/
def ahead (l : List Snp) (k : Nat) : Snp := if k = 0 then Snp.zero else l.getD (k - 1) Snp.zero
theorem prs_succ (l : List Snp) (k : Nat) : prs l (k + 1) = prs l k ++ [(ahead l k, l.getD k Snp.zero)] := rfl

theorem nameBad_empty {p : Snp × Snp} (h : p.2.name.toList.isEmpty = true) : nameBad p = true := by
  have e : p.2.name.toList = [] := List.isEmpty_iff.1 h
  unfold nameBad
  rw [e, ← bl_total]
  cases p.1.name.toList <;> simp [Op.bytesLess]
theorem nameBad_long {p : Snp × Snp} (h : 64 < p.2.name.size) : nameBad p = true := by unfold nameBad; rw [decide_eq_true h]; simp
theorem nameBad_less {p : Snp × Snp} (h : Op.bytesLess p.1.name.toList p.2.name.toList = false) : nameBad p = true := by unfold nameBad; rw [← bl_total, h]; rfl
theorem nameBad_not {p : Snp × Snp} (h : Op.bytesLess p.1.name.toList p.2.name.toList = true) (h2 : ¬ 64 < p.2.name.size) : nameBad p = false := by unfold nameBad; rw [← bl_total, h, decide_eq_false h2]; rfl
theorem nameBad_first {p : Snp × Snp} (h : p.2.name.toList.isEmpty = false) (h1 : p.1 = Snp.zero) (h2 : ¬ 64 < p.2.name.size) : nameBad p = false := by
  refine nameBad_not ?_ h2
  rw [h1]
  have : Snp.zero.name.toList = [] := by rw [ByteArray.toList_eq]; rfl
  rw [this]
  cases hc : p.2.name.toList with
  | nil => rw [hc] at h; simp at h
  | cons => rfl

theorem chk_names {m : Man} (h1 : (vol m.vol.data.toList && mayB m.bvol m.bseq m.vol) = true) (k : Nat) (hk : k < m.snaps.length) (h : nameBad (ahead m.snaps k, m.snaps.getD k Snp.zero) = true) : chk m = 1 := by
  unfold chk
  rw [if_neg (by rw [h1]; simp), if_pos (List.any_eq_true.2 ⟨_, prs_mem _ (k + 1) _ (by omega) _ (by rw [prs_succ]; exact List.mem_append_right _ (List.mem_singleton.2 rfl)), h⟩)]
theorem chk_range {m : Man} (h1 : (vol m.vol.data.toList && mayB m.bvol m.bseq m.vol) = true) (h2 : ∀ p ∈ prs m.snaps m.snaps.length, nameBad p = false) (h3 : right0 m = false) : chk m = 31 := by
  unfold chk
  rw [if_neg (by rw [h1]; simp), if_neg (by rw [List.any_eq_true]; rintro ⟨p, hp, hb⟩; rw [h2 p hp] at hb; cases hb), if_pos (by rw [h3]; rfl)]
theorem chk_nums {m : Man} (h1 : (vol m.vol.data.toList && mayB m.bvol m.bseq m.vol) = true) (h2 : ∀ p ∈ prs m.snaps m.snaps.length, nameBad p = false) (k : Nat) (hk : k < m.snaps.length) (h : numsOk (ahead m.snaps k, m.snaps.getD k Snp.zero) = false) : chk m = 31 := by
  unfold chk
  rw [if_neg (by rw [h1]; simp), if_neg (by rw [List.any_eq_true]; rintro ⟨p, hp, hb⟩; rw [h2 p hp] at hb; cases hb), if_pos]
  rw [Bool.and_eq_false_iff]
  right
  rw [List.all_eq_false]
  exact ⟨_, prs_mem _ (k + 1) _ (by omega) _ (by rw [prs_succ]; exact List.mem_append_right _ (List.mem_singleton.2 rfl)), by rw [h]; simp⟩
theorem chk_full {m : Man} (h1 : (vol m.vol.data.toList && mayB m.bvol m.bseq m.vol) = true) (h2 : ∀ p ∈ prs m.snaps m.snaps.length, nameBad p = false) (h3 : right0 m = true) (h4 : ∀ p ∈ prs m.snaps m.snaps.length, numsOk p = true) :
    chk m = if 100 < m.snaps.length then 32 else 0 := by
  unfold chk
  rw [if_neg (by rw [h1]; simp), if_neg (by rw [List.any_eq_true]; rintro ⟨p, hp, hb⟩; rw [h2 p hp] at hb; cases hb), if_neg (by rw [h3, Bool.true_and, Bool.not_eq_false, List.all_eq_true]; exact h4)]
end Go.Proofs.Ytmkcphelmgkipaa

namespace Go.Proofs.Ytmkcphelmgkipaa
open Go.RowKit

theorem isEmpty_iff (s : ByteArray) : s.toList.isEmpty = decide (s.data.toList = []) := by
  rw [ByteArray.toList_eq]; cases s.data.toList <;> simp

set_option maxHeartbeats 4000000 in
set_option maxRecDepth 100000 in
theorem rcheck_any (m : Man) (sv : Value) (w : World) (hf : Fits m) (hS : SnapsAt w sv m.snaps) :
    Calls Try.prog 16 #[m.val sv] w fun e w' => e = .returned (.int .i64 (chk m)) ∧ Below w.heap.size w w' := by
  have hB : Below w.heap.size w (w.alloc (.cells #[.string m.vol, .int .u64 m.key, .int .i64 m.serial, .int .i64 m.size, .string m.bvol, .int .i64 m.bseq, sv] 35)) := (Below.refl _ w).alloc (Nat.le_refl _) _
  have HB := Lib.hid hB
  clear hB
  cases hv : vol m.vol.data.toList with
  | false =>
    have HC := Lib.hid (chk_one m (by rw [hv]; rfl))
    obtain ⟨v, key, serial, size, bv, bs, l⟩ := m
    obtain ⟨hvs, hbv, hlen, hnames⟩ := hf
    simp only [Man.val] at *
    go_enter Try.func16, Try.ntmps16
    go_wp2_with fail
    refine (rvolume_any v _ hvs).mono ?_
    rintro e w' ⟨rfl, rfl⟩
    rw [hv]
    clear hv
    go_wp2
    go_ret
    exact ⟨by rw [HC.out]; rfl, HB.out⟩
  | true =>
    cases hm : mayB m.bvol m.bseq m.vol with
    | false =>
      have HC := Lib.hid (chk_one m (by rw [hv, hm]; rfl))
      -- why not
      have hcase : (m.bvol.toList.isEmpty = true ∧ (m.bseq != 0) = true) ∨ (m.bvol.toList.isEmpty = false ∧ vol m.bvol.data.toList = false) ∨ (m.bvol.toList.isEmpty = false ∧ vol m.bvol.data.toList = true ∧ (m.bvol.toList == m.vol.toList) = true) ∨
          (m.bvol.toList.isEmpty = false ∧ vol m.bvol.data.toList = true ∧ (m.bvol.toList == m.vol.toList) = false ∧ nump m.bseq = false) := by
        rw [beq_toList, isEmpty_iff]
        unfold mayB at hm
        by_cases h1 : m.bvol.data.toList = []
        · rw [h1] at hm ⊢
          by_cases h2 : m.bseq = 0
          · simp [h2] at hm
          · left; simp [h2]
        · right
          cases h2 : vol m.bvol.data.toList with
          | false => left; simp [h1]
          | true =>
            right
            by_cases h3 : m.bvol = m.vol
            · left; exact ⟨decide_eq_false h1, rfl, decide_eq_true h3⟩
            · right
              simp only [h1, h2, h3, decide_false, Bool.false_and, Bool.false_or, Bool.true_and, ne_eq, not_false_eq_true, decide_true] at hm
              exact ⟨by simp [h1], rfl, by simp [h3], hm⟩
      clear hm
      obtain ⟨v, key, serial, size, bv, bs, l⟩ := m
      obtain ⟨hvs, hbv, hlen, hnames⟩ := hf
      simp only [Man.val] at *
      have HV := Lib.hid hv
      clear hv
      rcases hcase with ⟨a1, a2⟩ | ⟨a1, a2⟩ | ⟨a1, a2, a3⟩ | ⟨a1, a2, a3, a4⟩
      · go_enter Try.func16, Try.ntmps16
        go_wp2_with fail
        refine (rvolume_any v _ hvs).mono ?_
        rintro e w' ⟨rfl, rfl⟩
        rw [HV.out]
        go_wp2
        go_ret
        exact ⟨by rw [HC.out]; rfl, HB.out⟩
      · have A2 := Lib.hid a2
        clear a2
        go_enter Try.func16, Try.ntmps16
        go_wp2_with fail
        refine (rvolume_any v _ hvs).mono ?_
        rintro e w' ⟨rfl, rfl⟩
        rw [HV.out]
        go_wp2_with fail
        refine (rvolume_any bv _ hbv).mono ?_
        rintro e w' ⟨rfl, rfl⟩
        rw [A2.out]
        go_wp2
        go_ret
        exact ⟨by rw [HC.out]; rfl, HB.out⟩
      · have A2 := Lib.hid a2
        clear a2
        go_enter Try.func16, Try.ntmps16
        go_wp2_with fail
        refine (rvolume_any v _ hvs).mono ?_
        rintro e w' ⟨rfl, rfl⟩
        rw [HV.out]
        go_wp2_with fail
        refine (rvolume_any bv _ hbv).mono ?_
        rintro e w' ⟨rfl, rfl⟩
        rw [A2.out]
        go_wp2
        go_ret
        exact ⟨by rw [HC.out]; rfl, HB.out⟩
      · have A2 := Lib.hid a2
        have A4 := Lib.hid a4
        clear a2 a4
        go_enter Try.func16, Try.ntmps16
        go_wp2_with fail
        refine (rvolume_any v _ hvs).mono ?_
        rintro e w' ⟨rfl, rfl⟩
        rw [HV.out]
        go_wp2_with fail
        refine (rvolume_any bv _ hbv).mono ?_
        rintro e w' ⟨rfl, rfl⟩
        rw [A2.out]
        go_wp2_with fail
        refine (rnumber_any bs _).mono ?_
        rintro e w' ⟨rfl, rfl⟩
        rw [A4.out]
        go_wp2
        go_ret
        exact ⟨by rw [HC.out]; rfl, HB.out⟩
    | true =>
      have h0 : (vol m.vol.data.toList && mayB m.bvol m.bseq m.vol) = true := by rw [hv, hm]; rfl
      have H0 := Lib.hid h0
      have hcase : (m.bvol.toList.isEmpty = true ∧ (m.bseq != 0) = false ∧ True ∧ True) ∨
          (m.bvol.toList.isEmpty = false ∧ vol m.bvol.data.toList = true ∧ (m.bvol.toList == m.vol.toList) = false ∧ nump m.bseq = true) := by
        rw [beq_toList, isEmpty_iff]
        unfold mayB at hm
        by_cases h1 : m.bvol.data.toList = []
        · left
          rw [h1] at hm ⊢
          have : vol [] = false := rfl
          rw [this] at hm
          simp at hm
          simp [hm]
        · right
          simp only [h1, decide_false, Bool.false_and, Bool.false_or, Bool.and_eq_true, decide_eq_true_eq] at hm
          exact ⟨decide_eq_false h1, hm.1.1, decide_eq_false hm.1.2, hm.2⟩
      clear hm h0
      have hright : (nump m.serial = true ∧ decide (m.size < 1) = false ∧ decide (65536 < m.size) = false ∧ Hid (right0 m = true)) ∨ (nump m.serial = true ∧ decide (m.size < 1) = false ∧ decide (65536 < m.size) = true ∧ Hid (right0 m = false)) ∨ (nump m.serial = true ∧ decide (m.size < 1) = true ∧ True ∧ Hid (right0 m = false)) ∨ (nump m.serial = false ∧ True ∧ True ∧ Hid (right0 m = false)) := by
        have e1 : decide (m.size < 1) = !decide (1 ≤ m.size) := by rw [← decide_not]; simp
        have e2 : decide (65536 < m.size) = !decide (m.size ≤ 65536) := by rw [← decide_not]; simp
        rw [e1, e2]
        unfold right0 Hid
        cases nump m.serial with
        | false => simp
        | true =>
          cases decide (1 ≤ m.size) with
          | false => simp
          | true =>
            cases decide (m.size ≤ 65536) with
            | false => simp
            | true => simp
      have hcs := hS.below ((Below.refl _ w).alloc (Nat.le_refl _) (.cells #[.string m.vol, .int .u64 m.key, .int .i64 m.serial, .int .i64 m.size, .string m.bvol, .int .i64 m.bseq, sv] 35)) (Nat.le_refl _)
      obtain ⟨a, cap, rfl, hcs⟩ := hcs
      obtain ⟨M, hM⟩ : ∃ M : Man, M = m := ⟨_, rfl⟩
      have H0' : Hid ((vol M.vol.data.toList && mayB M.bvol M.bseq M.vol) = true) := by rw [hM]; exact H0
      have HR0 : right0 M = right0 m := by rw [hM]
      have HSN : M.snaps = m.snaps := by rw [hM]
      obtain ⟨v, key, serial, size, bv, bs, l⟩ := m
      obtain ⟨hvs, hbv, hlen, hnames⟩ := hf
      simp only [Man.val] at *
      have HCS := Lib.hid hcs
      have HNM := Lib.hid hnames
      have HV := Lib.hid hv
      clear hv hS hcs hnames H0
      rcases hcase with ⟨a1, a2, a3, a4⟩ | ⟨a1, a2, a3, a4⟩
      · go_enter Try.func16, Try.ntmps16
        go_wp2_with fail
        refine (rvolume_any v _ hvs).mono ?_
        rintro e w' ⟨rfl, rfl⟩
        rw [HV.out]
        go_wp2
        go_loop [3] (fun i => ∃ k : Nat, i = .int .i64 k ∧ k ≤ l.length ∧ Hid (∀ p ∈ prs l k, nameBad p = false)) (fun i => l.length - (intOf i).toNat)
        case atStart => exact ⟨0, rfl, by omega, by intro p hp; simp [prs] at hp⟩
        case round =>
          obtain ⟨k, rfl, hk, HG⟩ := hrel
          by_cases hlt : k < l.length
          · obtain ⟨b, off, hab, hc0, hc1, hc2⟩ := HCS.out k hlt
            clear hc1 hc2
            have HN1 : Hid (nameBad (ahead l k, l.getD k Snp.zero) = true → chk M = 1) := fun h => chk_names H0' k (by rw [HSN]; exact hlt) (by rw [HSN]; exact h)
            have HGS : Hid (nameBad (ahead l k, l.getD k Snp.zero) = false → ∀ p ∈ prs l (k + 1), nameBad p = false) := by
              intro h p hp
              rw [prs_succ] at hp
              rcases List.mem_append.1 hp with h2 | h2
              · exact HG.out p h2
              · simp only [List.mem_singleton] at h2; rw [h2]; exact h
            obtain ⟨x, hx⟩ : ∃ x, x = l.getD k Snp.zero := ⟨_, rfl⟩
            rw [← hx] at hc0 HN1 HGS
            have HXE := Lib.hid hx
            clear hx
            have HAB := Lib.hid hab
            subst hab
            cases he : x.name.toList.isEmpty with
            | true =>
              have HC := Lib.hid (HN1.out (nameBad_empty he))
              go_wp2
              go_ret
              exact ⟨by rw [← hM, HC.out]; rfl, HB.out⟩
            | false =>
              by_cases h64 : 64 < x.name.size
              · have HC := Lib.hid (HN1.out (nameBad_long h64))
                go_wp2
                go_ret
                exact ⟨by rw [← hM, HC.out]; rfl, HB.out⟩
              · by_cases hk0 : k = 0
                · have HZ := Lib.hid (HGS.out (nameBad_first he (by rw [hk0]; rfl) h64))
                  have hk1 : ¬ 0 < k := by omega
                  clear hk0
                  go_wp2
                  go_round
                  case rel => exact ⟨k + 1, by go_num, by omega, HZ⟩
                  case measure => simp [intOf]; omega
                · obtain ⟨b', off', hab', hd0, hd1, hd2⟩ := HCS.out (k - 1) (by omega)
                  simp only [Option.some.injEq, Addr.mk.injEq] at hab'
                  obtain ⟨rfl, rfl, _⟩ := hab'
                  clear hd1 hd2
                  have hah : ahead l k = l.getD (k - 1) Snp.zero := if_neg hk0
                  rw [hah] at HN1 HGS
                  obtain ⟨px, hpx⟩ : ∃ px, px = l.getD (k - 1) Snp.zero := ⟨_, rfl⟩
                  rw [← hpx] at hd0 HN1 HGS
                  clear hpx hah
                  cases hbl : Op.bytesLess px.name.toList x.name.toList with
                  | false =>
                    have HC := Lib.hid (HN1.out (nameBad_less hbl))
                    go_wp2
                    go_ret
                    exact ⟨by rw [← hM, HC.out]; rfl, HB.out⟩
                  | true =>
                    have HZ := Lib.hid (HGS.out (nameBad_not hbl h64))
                    go_wp2
                    go_round
                    case rel => exact ⟨k + 1, by go_num, by omega, HZ⟩
                    case measure => simp [intOf]; omega
          · obtain rfl : k = l.length := by omega
            have HGM : Hid (∀ p ∈ prs M.snaps M.snaps.length, nameBad p = false) := by rw [HSN]; exact HG
            rcases hright with ⟨n1, n2, n3, HR⟩ | ⟨n1, n2, n3, HR⟩ | ⟨n1, n2, n3, HR⟩ | ⟨n1, n2, n3, HR⟩
            · have N1 := Lib.hid n1
              clear n1
              go_wp2_with fail
              refine (rnumber_any serial _).mono ?_
              rintro e w' ⟨rfl, rfl⟩
              rw [N1.out]
              go_wp2
              go_loop [5] (fun i => ∃ k : Nat, i = .int .i64 k ∧ k ≤ l.length ∧ Hid (∀ p ∈ prs l k, numsOk p = true)) (fun i => l.length - (intOf i).toNat)
              case atStart => exact ⟨0, rfl, by omega, by intro p hp; simp [prs] at hp⟩
              case round =>
                obtain ⟨k, rfl, hk, HQ⟩ := hrel
                by_cases hlt : k < l.length
                · obtain ⟨b, off, hab, hc0, hc1, hc2⟩ := HCS.out k hlt
                  clear hc0
                  have HN1 : Hid (numsOk (ahead l k, l.getD k Snp.zero) = false → chk M = 31) := fun h => chk_nums H0' HGM k (by rw [HSN]; exact hlt) (by rw [HSN]; exact h)
                  have HGS : Hid (numsOk (ahead l k, l.getD k Snp.zero) = true → ∀ p ∈ prs l (k + 1), numsOk p = true) := by
                    intro h p hp
                    rw [prs_succ] at hp
                    rcases List.mem_append.1 hp with h2 | h2
                    · exact HQ.out p h2
                    · simp only [List.mem_singleton] at h2; rw [h2]; exact h
                  obtain ⟨x, hx⟩ : ∃ x, x = l.getD k Snp.zero := ⟨_, rfl⟩
                  rw [← hx] at hc1 hc2 HN1 HGS
                  clear hx
                  have HAB := Lib.hid hab
                  subst hab
                  cases hs1 : nump x.seq with
                  | false =>
                    have HC := Lib.hid (HN1.out (by unfold numsOk; rw [hs1]; rfl))
                    go_wp2_with fail
                    refine (rnumber_any x.seq _).mono ?_
                    rintro e w' ⟨rfl, rfl⟩
                    rw [hs1]
                    clear hs1
                    go_wp2
                    go_ret
                    exact ⟨by rw [← hM, HC.out]; rfl, HB.out⟩
                  | true =>
                    cases hs2 : nump x.upto with
                    | false =>
                      have HC := Lib.hid (HN1.out (by unfold numsOk; rw [hs1, hs2]; rfl))
                      go_wp2_with fail
                      refine (rnumber_any x.seq _).mono ?_
                      rintro e w' ⟨rfl, rfl⟩
                      rw [hs1]
                      clear hs1
                      go_wp2_with fail
                      refine (rnumber_any x.upto _).mono ?_
                      rintro e w' ⟨rfl, rfl⟩
                      rw [hs2]
                      clear hs2
                      go_wp2
                      go_ret
                      exact ⟨by rw [← hM, HC.out]; rfl, HB.out⟩
                    | true =>
                      have HZ := Lib.hid (HGS.out (by unfold numsOk; rw [hs1, hs2]; rfl))
                      go_wp2_with fail
                      refine (rnumber_any x.seq _).mono ?_
                      rintro e w' ⟨rfl, rfl⟩
                      rw [hs1]
                      clear hs1
                      go_wp2_with fail
                      refine (rnumber_any x.upto _).mono ?_
                      rintro e w' ⟨rfl, rfl⟩
                      rw [hs2]
                      clear hs2
                      go_wp2
                      go_round
                      case rel => exact ⟨k + 1, by go_num, by omega, HZ⟩
                      case measure => simp [intOf]; omega
                · obtain rfl : k = l.length := by omega
                  have HC : Hid (chk M = if 100 < l.length then 32 else 0) := by rw [← HSN]; exact chk_full H0' HGM (by rw [HR0]; exact HR) (by rw [HSN]; exact HQ)
                  by_cases h100 : 100 < l.length
                  · go_wp2
                    go_ret
                    exact ⟨by rw [← hM, HC.out, if_pos h100]; rfl, HB.out⟩
                  · go_wp2
                    go_ret
                    exact ⟨by rw [← hM, HC.out, if_neg h100]; rfl, HB.out⟩
            all_goals
              have N1 := Lib.hid n1
              have HC := Lib.hid (chk_range H0' HGM (by rw [HR0]; exact HR))
              clear n1
              go_wp2_with fail
              refine (rnumber_any serial _).mono ?_
              rintro e w' ⟨rfl, rfl⟩
              rw [N1.out]
              go_wp2
              go_ret
              exact ⟨by rw [← hM, HC.out]; rfl, HB.out⟩
      · have A2 := Lib.hid a2
        have A4 := Lib.hid a4
        clear a2 a4
        go_enter Try.func16, Try.ntmps16
        go_wp2_with fail
        refine (rvolume_any v _ hvs).mono ?_
        rintro e w' ⟨rfl, rfl⟩
        rw [HV.out]
        go_wp2_with fail
        refine (rvolume_any bv _ hbv).mono ?_
        rintro e w' ⟨rfl, rfl⟩
        rw [A2.out]
        go_wp2_with fail
        refine (rnumber_any bs _).mono ?_
        rintro e w' ⟨rfl, rfl⟩
        rw [A4.out]
        go_wp2
        go_loop [3] (fun i => ∃ k : Nat, i = .int .i64 k ∧ k ≤ l.length ∧ Hid (∀ p ∈ prs l k, nameBad p = false)) (fun i => l.length - (intOf i).toNat)
        case atStart => exact ⟨0, rfl, by omega, by intro p hp; simp [prs] at hp⟩
        case round =>
          obtain ⟨k, rfl, hk, HG⟩ := hrel
          by_cases hlt : k < l.length
          · obtain ⟨b, off, hab, hc0, hc1, hc2⟩ := HCS.out k hlt
            clear hc1 hc2
            have HN1 : Hid (nameBad (ahead l k, l.getD k Snp.zero) = true → chk M = 1) := fun h => chk_names H0' k (by rw [HSN]; exact hlt) (by rw [HSN]; exact h)
            have HGS : Hid (nameBad (ahead l k, l.getD k Snp.zero) = false → ∀ p ∈ prs l (k + 1), nameBad p = false) := by
              intro h p hp
              rw [prs_succ] at hp
              rcases List.mem_append.1 hp with h2 | h2
              · exact HG.out p h2
              · simp only [List.mem_singleton] at h2; rw [h2]; exact h
            obtain ⟨x, hx⟩ : ∃ x, x = l.getD k Snp.zero := ⟨_, rfl⟩
            rw [← hx] at hc0 HN1 HGS
            have HXE := Lib.hid hx
            clear hx
            have HAB := Lib.hid hab
            subst hab
            cases he : x.name.toList.isEmpty with
            | true =>
              have HC := Lib.hid (HN1.out (nameBad_empty he))
              go_wp2
              go_ret
              exact ⟨by rw [← hM, HC.out]; rfl, HB.out⟩
            | false =>
              by_cases h64 : 64 < x.name.size
              · have HC := Lib.hid (HN1.out (nameBad_long h64))
                go_wp2
                go_ret
                exact ⟨by rw [← hM, HC.out]; rfl, HB.out⟩
              · by_cases hk0 : k = 0
                · have HZ := Lib.hid (HGS.out (nameBad_first he (by rw [hk0]; rfl) h64))
                  have hk1 : ¬ 0 < k := by omega
                  clear hk0
                  go_wp2
                  go_round
                  case rel => exact ⟨k + 1, by go_num, by omega, HZ⟩
                  case measure => simp [intOf]; omega
                · obtain ⟨b', off', hab', hd0, hd1, hd2⟩ := HCS.out (k - 1) (by omega)
                  simp only [Option.some.injEq, Addr.mk.injEq] at hab'
                  obtain ⟨rfl, rfl, _⟩ := hab'
                  clear hd1 hd2
                  have hah : ahead l k = l.getD (k - 1) Snp.zero := if_neg hk0
                  rw [hah] at HN1 HGS
                  obtain ⟨px, hpx⟩ : ∃ px, px = l.getD (k - 1) Snp.zero := ⟨_, rfl⟩
                  rw [← hpx] at hd0 HN1 HGS
                  clear hpx hah
                  cases hbl : Op.bytesLess px.name.toList x.name.toList with
                  | false =>
                    have HC := Lib.hid (HN1.out (nameBad_less hbl))
                    go_wp2
                    go_ret
                    exact ⟨by rw [← hM, HC.out]; rfl, HB.out⟩
                  | true =>
                    have HZ := Lib.hid (HGS.out (nameBad_not hbl h64))
                    go_wp2
                    go_round
                    case rel => exact ⟨k + 1, by go_num, by omega, HZ⟩
                    case measure => simp [intOf]; omega
          · obtain rfl : k = l.length := by omega
            have HGM : Hid (∀ p ∈ prs M.snaps M.snaps.length, nameBad p = false) := by rw [HSN]; exact HG
            rcases hright with ⟨n1, n2, n3, HR⟩ | ⟨n1, n2, n3, HR⟩ | ⟨n1, n2, n3, HR⟩ | ⟨n1, n2, n3, HR⟩
            · have N1 := Lib.hid n1
              clear n1
              go_wp2_with fail
              refine (rnumber_any serial _).mono ?_
              rintro e w' ⟨rfl, rfl⟩
              rw [N1.out]
              go_wp2
              go_loop [5] (fun i => ∃ k : Nat, i = .int .i64 k ∧ k ≤ l.length ∧ Hid (∀ p ∈ prs l k, numsOk p = true)) (fun i => l.length - (intOf i).toNat)
              case atStart => exact ⟨0, rfl, by omega, by intro p hp; simp [prs] at hp⟩
              case round =>
                obtain ⟨k, rfl, hk, HQ⟩ := hrel
                by_cases hlt : k < l.length
                · obtain ⟨b, off, hab, hc0, hc1, hc2⟩ := HCS.out k hlt
                  clear hc0
                  have HN1 : Hid (numsOk (ahead l k, l.getD k Snp.zero) = false → chk M = 31) := fun h => chk_nums H0' HGM k (by rw [HSN]; exact hlt) (by rw [HSN]; exact h)
                  have HGS : Hid (numsOk (ahead l k, l.getD k Snp.zero) = true → ∀ p ∈ prs l (k + 1), numsOk p = true) := by
                    intro h p hp
                    rw [prs_succ] at hp
                    rcases List.mem_append.1 hp with h2 | h2
                    · exact HQ.out p h2
                    · simp only [List.mem_singleton] at h2; rw [h2]; exact h
                  obtain ⟨x, hx⟩ : ∃ x, x = l.getD k Snp.zero := ⟨_, rfl⟩
                  rw [← hx] at hc1 hc2 HN1 HGS
                  clear hx
                  have HAB := Lib.hid hab
                  subst hab
                  cases hs1 : nump x.seq with
                  | false =>
                    have HC := Lib.hid (HN1.out (by unfold numsOk; rw [hs1]; rfl))
                    go_wp2_with fail
                    refine (rnumber_any x.seq _).mono ?_
                    rintro e w' ⟨rfl, rfl⟩
                    rw [hs1]
                    clear hs1
                    go_wp2
                    go_ret
                    exact ⟨by rw [← hM, HC.out]; rfl, HB.out⟩
                  | true =>
                    cases hs2 : nump x.upto with
                    | false =>
                      have HC := Lib.hid (HN1.out (by unfold numsOk; rw [hs1, hs2]; rfl))
                      go_wp2_with fail
                      refine (rnumber_any x.seq _).mono ?_
                      rintro e w' ⟨rfl, rfl⟩
                      rw [hs1]
                      clear hs1
                      go_wp2_with fail
                      refine (rnumber_any x.upto _).mono ?_
                      rintro e w' ⟨rfl, rfl⟩
                      rw [hs2]
                      clear hs2
                      go_wp2
                      go_ret
                      exact ⟨by rw [← hM, HC.out]; rfl, HB.out⟩
                    | true =>
                      have HZ := Lib.hid (HGS.out (by unfold numsOk; rw [hs1, hs2]; rfl))
                      go_wp2_with fail
                      refine (rnumber_any x.seq _).mono ?_
                      rintro e w' ⟨rfl, rfl⟩
                      rw [hs1]
                      clear hs1
                      go_wp2_with fail
                      refine (rnumber_any x.upto _).mono ?_
                      rintro e w' ⟨rfl, rfl⟩
                      rw [hs2]
                      clear hs2
                      go_wp2
                      go_round
                      case rel => exact ⟨k + 1, by go_num, by omega, HZ⟩
                      case measure => simp [intOf]; omega
                · obtain rfl : k = l.length := by omega
                  have HC : Hid (chk M = if 100 < l.length then 32 else 0) := by rw [← HSN]; exact chk_full H0' HGM (by rw [HR0]; exact HR) (by rw [HSN]; exact HQ)
                  by_cases h100 : 100 < l.length
                  · go_wp2
                    go_ret
                    exact ⟨by rw [← hM, HC.out, if_pos h100]; rfl, HB.out⟩
                  · go_wp2
                    go_ret
                    exact ⟨by rw [← hM, HC.out, if_neg h100]; rfl, HB.out⟩
            all_goals
              have N1 := Lib.hid n1
              have HC := Lib.hid (chk_range H0' HGM (by rw [HR0]; exact HR))
              clear n1
              go_wp2_with fail
              refine (rnumber_any serial _).mono ?_
              rintro e w' ⟨rfl, rfl⟩
              rw [N1.out]
              go_wp2
              go_ret
              exact ⟨by rw [← hM, HC.out]; rfl, HB.out⟩
end Go.Proofs.Ytmkcphelmgkipaa

namespace Go.Proofs.Ytmkcphelmgkipaa
open Go.RowKit

/-- A snapshot's bytes. -/
def snapBytes (x : Snp) : List UInt8 := txt x.name.data.toList ++ (vr x.seq.toNat ++ vr x.upto.toNat)
def snapsBytes (l : List Snp) : List UInt8 := (l.map snapBytes).flatten
/-- What stands ahead of the snapshots. -/
def front (m : Man) : List UInt8 :=
  [77, 65, 78, 50] ++ txt m.vol.data.toList ++ be m.key.toNat 8 ++ (vr m.serial.toNat ++ vr m.size.toNat) ++ txt m.bvol.data.toList ++ (vr m.bseq.toNat ++ vr m.snaps.length)
/-- A manifest's bytes. -/
def enc (m : Man) : List UInt8 := sealed (front m ++ snapsBytes m.snaps)

/-- What a manifest that may be is. -/
structure Good (m : Man) : Prop where
  vol : vol m.vol.data.toList = true
  may : mayB m.bvol m.bseq m.vol = true
  serial : 0 ≤ m.serial ∧ m.serial < 1099511627776
  size : 1 ≤ m.size ∧ m.size ≤ 65536
  names : ∀ p ∈ prs m.snaps m.snaps.length, nameBad p = false
  nums : ∀ p ∈ prs m.snaps m.snaps.length, numsOk p = true
  many : m.snaps.length ≤ 100

theorem nump_iff (n : Int) : nump n = true ↔ 0 ≤ n ∧ n < 1099511627776 := by unfold nump; rw [decide_eq_true_iff]

theorem chk_good {m : Man} (h : chk m = 0) : Good m := by
  unfold chk at h
  split at h
  · cases h
  · rename_i h1
    split at h
    · cases h
    · rename_i h2
      split at h
      · cases h
      · rename_i h3
        split at h
        · cases h
        · rename_i h4
          simp only [Bool.not_eq_false, Bool.and_eq_true] at h1 h3
          obtain ⟨h3, h3'⟩ := h3
          unfold right0 at h3
          simp only [Bool.and_eq_true, decide_eq_true_eq, nump_iff] at h3
          refine ⟨h1.1, h1.2, h3.1.1, ⟨h3.1.2, h3.2⟩, ?_, ?_, by omega⟩
          · intro p hp
            cases hb : nameBad p with
            | false => rfl
            | true => exact absurd (List.any_eq_true.2 ⟨p, hp, hb⟩) h2
          · exact List.all_eq_true.1 h3'

theorem good_chk {m : Man} (h : Good m) : chk m = 0 := by
  have h1 : (vol m.vol.data.toList && mayB m.bvol m.bseq m.vol) = true := by rw [h.vol, h.may]; rfl
  have h3 : right0 m = true := by
    unfold right0
    rw [(nump_iff _).2 h.serial, decide_eq_true h.size.1, decide_eq_true h.size.2]; rfl
  rw [chk_full h1 h.names h3 h.nums, if_neg (by have := h.many; omega)]

theorem vol_size {l : List UInt8} (h : vol l = true) : 1 ≤ l.length ∧ l.length ≤ 32 := by
  unfold vol at h
  simp only [Bool.and_eq_true, decide_eq_true_eq] at h
  exact h.1

theorem may_size {bv v : ByteArray} {bs : Int} (h : mayB bv bs v = true) : bv.data.toList.length ≤ 32 ∧ 0 ≤ bs ∧ bs < 1099511627776 := by
  unfold mayB at h
  simp only [Bool.or_eq_true, Bool.and_eq_true, decide_eq_true_eq, nump_iff] at h
  rcases h with ⟨h1, h2⟩ | ⟨⟨h1, _⟩, h2⟩
  · rw [h1, h2]; simp
  · exact ⟨(vol_size h1).2, h2⟩

theorem prs_at (l : List Snp) (k : Nat) (hk : k < l.length) : (ahead l k, l.getD k Snp.zero) ∈ prs l l.length :=
  prs_mem l (k + 1) _ (by omega) _ (by rw [prs_succ]; exact List.mem_append_right _ (List.mem_singleton.2 rfl))

theorem Good.at {m : Man} (h : Good m) (k : Nat) (hk : k < m.snaps.length) :
    (m.snaps.getD k Snp.zero).name.size ≤ 64 ∧ (0 ≤ (m.snaps.getD k Snp.zero).seq ∧ (m.snaps.getD k Snp.zero).seq < 1099511627776) ∧ (0 ≤ (m.snaps.getD k Snp.zero).upto ∧ (m.snaps.getD k Snp.zero).upto < 1099511627776) := by
  have h1 := h.names _ (prs_at m.snaps k hk)
  have h2 := h.nums _ (prs_at m.snaps k hk)
  unfold nameBad at h1
  unfold numsOk at h2
  simp only [Bool.or_eq_false_iff, decide_eq_false_iff_not, Bool.and_eq_true, nump_iff] at h1 h2
  exact ⟨by omega, h2⟩

theorem txt_length (l : List UInt8) : (txt l).length ≤ l.length + 9 := by
  have := vr_le l.length
  simp [txt]; omega

theorem snapsBytes_take (l : List Snp) (k : Nat) (hk : k < l.length) : snapsBytes (l.take (k + 1)) = snapsBytes (l.take k) ++ snapBytes (l.getD k Snp.zero) := by
  unfold snapsBytes
  rw [List.take_succ_eq_append_getElem hk, List.map_append, List.flatten_append]
  simp [hk]

theorem snapsBytes_le {m : Man} (h : Good m) (k : Nat) (hk : k ≤ m.snaps.length) : (snapsBytes (m.snaps.take k)).length ≤ 91 * k := by
  induction k with
  | zero => simp [snapsBytes]
  | succ k ih =>
    rw [snapsBytes_take _ _ (by omega)]
    have hx := (h.at k (by omega)).1
    have h1 := txt_length (m.snaps.getD k Snp.zero).name.data.toList
    have h2 := vr_le (m.snaps.getD k Snp.zero).seq.toNat
    have h3 := vr_le (m.snaps.getD k Snp.zero).upto.toNat
    have h4 := ih (by omega)
    have h5 : (m.snaps.getD k Snp.zero).name.data.toList.length = (m.snaps.getD k Snp.zero).name.size := by simp
    have h6 : (snapBytes (m.snaps.getD k Snp.zero)).length = (txt (m.snaps.getD k Snp.zero).name.data.toList).length + ((vr (m.snaps.getD k Snp.zero).seq.toNat).length + (vr (m.snaps.getD k Snp.zero).upto.toNat).length) := by simp [snapBytes]
    rw [List.length_append]
    omega

theorem front_le {m : Man} (h : Good m) : (front m).length ≤ 140 := by
  have h1 := txt_length m.vol.data.toList
  have h2 := txt_length m.bvol.data.toList
  have h3 := vr_le m.serial.toNat
  have h4 := vr_le m.size.toNat
  have h5 := vr_le m.bseq.toNat
  have h6 := vr_le m.snaps.length
  have h7 := (vol_size h.vol).2
  have h8 := (may_size h.may).1
  simp only [front, List.length_append, be_length, List.length_cons, List.length_nil]
  omega
end Go.Proofs.Ytmkcphelmgkipaa

namespace Go.Proofs.Ytmkcphelmgkipaa
open Go.RowKit

theorem out_new (w : World) : OutAt (w.alloc (.cells #[.slice none 0 0] 85)) w.heap.size (.slice none 0 0) [] :=
  ⟨heap_alloc_new w _, World.ownsRow_nil _ _ _ _⟩

set_option maxHeartbeats 1000000 in
set_option maxRecDepth 100000 in
theorem encode_bad (m : Man) (sv : Value) (w : World) (hf : Fits m) (hS : SnapsAt w sv m.snaps) (hc : chk m ≠ 0) :
    Calls Try.prog 17 #[m.val sv] w fun e w' => e = .returned (.tuple #[.string (str []), .int .i64 (chk m)]) ∧ Below w.heap.size w w' := by
  have HC := Lib.hid (check_any m sv (w.alloc (.cells #[.string m.vol, .int .u64 m.key, .int .i64 m.serial, .int .i64 m.size, .string m.bvol, .int .i64 m.bseq, sv] 29)) hf (hS.below ((Below.refl _ w).alloc (Nat.le_refl _) _) (Nat.le_refl _)))
  have hn : (chk m != 0) = true := by rw [bne_iff_ne]; exact hc
  generalize chk m = c at *
  obtain ⟨v, key, serial, size, bv, bs, l⟩ := m
  simp only [Man.val] at *
  clear hf hS hc
  go_enter Try.func17, Try.ntmps17
  go_wp2_with fail
  refine HC.out.mono ?_
  rintro e w1 ⟨rfl, hb⟩
  go_wp2
  go_ret2
  exact ⟨rfl, alloc_trans hb⟩

set_option maxHeartbeats 1000000 in
set_option maxRecDepth 100000 in
theorem encode_good (m : Man) (sv : Value) (w : World) (hf : Fits m) (hk : 0 ≤ m.key ∧ m.key < 18446744073709551616) (hS : SnapsAt w sv m.snaps) (hc : chk m = 0) :
    Calls Try.prog 17 #[m.val sv] w fun e w' => e = .returned (.tuple #[.string (str (enc m)), .int .i64 0]) ∧ Below w.heap.size w w' := by
  have hchk := check_any m sv (w.alloc (.cells #[.string m.vol, .int .u64 m.key, .int .i64 m.serial, .int .i64 m.size, .string m.bvol, .int .i64 m.bseq, sv] 29)) hf (hS.below ((Below.refl _ w).alloc (Nat.le_refl _) _) (Nat.le_refl _))
  rw [hc] at hchk
  have HC := Lib.hid hchk
  have HG := Lib.hid (chk_good hc)
  have hser := (chk_good hc).serial
  have hsiz := (chk_good hc).size
  have hmany := (chk_good hc).many
  have hbseq := (may_size (chk_good hc).may).2
  have hvsz : m.vol.size ≤ 32 := by have := (vol_size (chk_good hc).vol).2; simpa using this
  have hbsz : m.bvol.size ≤ 32 := by have := (may_size (chk_good hc).may).1; simpa using this
  have HF : Hid (front m = [77, 65, 78, 50] ++ txt m.vol.data.toList ++ be m.key.toNat 8 ++ (vr m.serial.toNat ++ vr m.size.toNat) ++ txt m.bvol.data.toList ++ (vr m.bseq.toNat ++ vr m.snaps.length)) := rfl
  have HFL := Lib.hid (front_le (chk_good hc))
  have HE : Hid (enc m = sealed (front m ++ snapsBytes m.snaps)) := rfl
  have HSL : Hid (∀ k, k ≤ m.snaps.length → (snapsBytes (m.snaps.take k)).length ≤ 91 * k) := snapsBytes_le (chk_good hc)
  have HAT : Hid (∀ k, k < m.snaps.length → (m.snaps.getD k Snp.zero).name.size ≤ 64 ∧ (0 ≤ (m.snaps.getD k Snp.zero).seq ∧ (m.snaps.getD k Snp.zero).seq < 1099511627776) ∧ (0 ≤ (m.snaps.getD k Snp.zero).upto ∧ (m.snaps.getD k Snp.zero).upto < 1099511627776)) := (chk_good hc).at
  have t1 := txt_length m.vol.data.toList
  have t2 := txt_length m.bvol.data.toList
  have t3 := vr_le m.serial.toNat
  have t4 := vr_le m.size.toNat
  have e1 : m.vol.data.toList.length = m.vol.size := by simp
  have e2 : m.bvol.data.toList.length = m.bvol.size := by simp
  rw [e1] at t1
  rw [e2] at t2
  clear hchk hc e1 e2
  obtain ⟨a, cap, hsv, hcs⟩ := hS
  have HCS := Lib.hid hcs
  clear hcs
  obtain ⟨M, hM⟩ : ∃ M : Man, M = m := ⟨_, rfl⟩
  have HM := Lib.hid hM
  obtain ⟨v, key, serial, size, bv, bs, l⟩ := m
  rw [← hM] at HF HE HFL HG
  clear hM
  simp only [Man.val] at *
  subst hsv
  clear hf
  go_enter Try.func17, Try.ntmps17
  go_wp2_with fail
  refine HC.out.mono ?_
  rintro e w1 ⟨rfl, hb⟩
  have hbox : w1.heap[w.heap.size]? = some (.cells #[.string v, .int .u64 key, .int .i64 serial, .int .i64 size, .string bv, .int .i64 bs, .slice a l.length cap] 29 (0, 0)) := by
    rw [hb.block _ (by simp)]; exact heap_alloc_new w _
  have hw1 : w.heap.size < w1.heap.size := by have := hb.size; simp at this; omega
  have HW1 := Lib.hid (alloc_trans hb)
  have HB0 := Lib.hid hbox
  clear hb hbox
  obtain ⟨o, ho⟩ : ∃ o, o = w1.heap.size := ⟨_, rfl⟩
  -- the magic
  have hO0 := out_new w1
  rw [← ho] at hO0
  have hB1 : Below o w1 (w1.alloc (.cells #[.slice none 0 0] 85)) := by rw [ho]; exact (Below.refl _ w1).alloc (Nat.le_refl _) _
  have hs0 : (w1.alloc (.cells #[.slice none 0 0] 85)).heap.size = o + 1 := by rw [ho]; simp
  go_wp2_with fail
  rw [← ho]
  obtain ⟨W0, hW0⟩ : ∃ W0, W0 = w1.alloc (.cells #[.slice none 0 0] 85) := ⟨_, rfl⟩
  rw [← hW0] at hO0 hB1 hs0 ⊢
  refine (raw_new o _ ⟨#[77, 65, 78, 50]⟩ (.slice none 0 0) [] _ hO0 (by simp [ByteArray.size]) hs0.symm).mono ?_
  rintro e w2 ⟨rfl, u2, hO2, ht2⟩
  have hb2 := ht2.below hO0.own hO0.lt
  have B2 := Lib.hid ((hB1.trans hb2).block _ (by omega) |>.trans HB0.out)
  have K2 := Lib.hid (hB1.trans hb2)
  have l2 : ([] ++ (ByteArray.mk #[77, 65, 78, 50]).data.toList).length = 4 := rfl
  generalize hL2 : [] ++ (ByteArray.mk #[77, 65, 78, 50]).data.toList = L2 at *
  have HL2 := Lib.hid hL2
  have hwo : w.heap.size < o := by omega
  have HOO := Lib.hid ho
  clear hO0 ht2 hB1 hs0 hb2 hW0 hL2 ho
  -- the volume
  have c0 := cell_of_heap B2.out 0
  simp only [List.getElem?_toArray, List.getElem?_cons_zero] at c0
  go_wp2_with fail
  refine (text_new o _ v u2 L2 _ hO2 (by omega) rfl).mono ?_
  rintro e w3 ⟨rfl, u3, hO3, ht3⟩
  have hb3 := ht3.below hO2.own hO2.lt
  have B3 := Lib.hid (hb3.block _ (by omega) |>.trans B2.out)
  have K3 := Lib.hid (K2.out.trans hb3)
  have l3 : (L2 ++ txt v.data.toList).length ≤ 45 := by rw [List.length_append]; omega
  generalize hL3 : L2 ++ txt v.data.toList = L3 at *
  have HL3 := Lib.hid hL3
  clear hO2 ht3 hb3 hL3 c0
  -- the key
  have c1 := cell_of_heap B3.out 1
  simp only [List.getElem?_toArray, List.getElem?_cons_zero, List.getElem?_cons_succ] at c1
  go_wp2_with fail
  refine (fixed_any o 8 key u3 L3 hk.1 hk.2 (by omega) (by omega) (by omega) _ hO3).mono ?_
  rintro e w4 ⟨rfl, u4, hO4, ht4, _⟩
  have hb4 := ht4.below hO3.own hO3.lt
  have B4 := Lib.hid (hb4.block _ (by omega) |>.trans B3.out)
  have K4 := Lib.hid (K3.out.trans hb4)
  have l4 : (L3 ++ be key.toNat 8).length ≤ 53 := by rw [List.length_append, be_length]; omega
  generalize hL4 : L3 ++ be key.toNat 8 = L4 at *
  have HL4 := Lib.hid hL4
  clear hO3 hb4 ht4 hL4 c1
  -- the serial and the size
  have c2 := cell_of_heap B4.out 2
  have c3 := cell_of_heap B4.out 3
  simp only [List.getElem?_toArray, List.getElem?_cons_zero, List.getElem?_cons_succ] at c2 c3
  go_wp2_with fail
  refine (var_two o _ serial size u4 L4 _ (by omega) (by omega) (by omega) (by omega) hO4 (by omega) rfl).mono ?_
  rintro e w5 ⟨rfl, u5, hO5, ht5, _⟩
  have hb5 := ht5.below hO4.own hO4.lt
  have B5 := Lib.hid (hb5.block _ (by omega) |>.trans B4.out)
  have K5 := Lib.hid (K4.out.trans hb5)
  have l5 : (L4 ++ (vr serial.toNat ++ vr size.toNat)).length ≤ 71 := by rw [List.length_append, List.length_append]; omega
  generalize hL5 : L4 ++ (vr serial.toNat ++ vr size.toNat) = L5 at *
  have HL5 := Lib.hid hL5
  clear hO4 ht5 hb5 hL5 c2 c3
  -- the base
  have c4 := cell_of_heap B5.out 4
  simp only [List.getElem?_toArray, List.getElem?_cons_zero, List.getElem?_cons_succ] at c4
  go_wp2_with fail
  refine (text_new o _ bv u5 L5 _ hO5 (by omega) rfl).mono ?_
  rintro e w6 ⟨rfl, u6, hO6, ht6⟩
  have hb6 := ht6.below hO5.own hO5.lt
  have B6 := Lib.hid (hb6.block _ (by omega) |>.trans B5.out)
  have K6 := Lib.hid (K5.out.trans hb6)
  have l6 : (L5 ++ txt bv.data.toList).length ≤ 112 := by rw [List.length_append]; omega
  generalize hL6 : L5 ++ txt bv.data.toList = L6 at *
  have HL6 := Lib.hid hL6
  clear hO5 ht6 hb6 hL6 c4
  have c5 := cell_of_heap B6.out 5
  have c6 := cell_of_heap B6.out 6
  simp only [List.getElem?_toArray, List.getElem?_cons_zero, List.getElem?_cons_succ] at c5 c6
  go_wp2_with fail
  refine (var_two o _ bs l.length u6 L6 _ (by omega) (by omega) (by omega) (by omega) hO6 (by omega) rfl).mono ?_
  rintro e w7 ⟨rfl, u7, hO7, ht7, _⟩
  have hb7 := ht7.below hO6.own hO6.lt
  have B7 := Lib.hid (hb7.block _ (by omega) |>.trans B6.out)
  have K7 := Lib.hid (K6.out.trans hb7)
  rw [Int.toNat_natCast] at hO7
  have hL7 : L6 ++ (vr bs.toNat ++ vr l.length) = front M := by
    rw [HF.out, HM.out, HL6.out.symm, HL5.out.symm, HL4.out.symm, HL3.out.symm, HL2.out.symm]; simp
  rw [hL7] at hO7
  have hl7 := HFL.out
  clear hO6 ht7 hb7 hL7 c5 c6
  have c6 := cell_of_heap B7.out 6
  simp only [List.getElem?_toArray, List.getElem?_cons_zero, List.getElem?_cons_succ] at c6
  generalize hF7 : front M = F7 at *
  have HF7 := Lib.hid hF7
  clear hF7
  have KW := Lib.hid (HW1.out.trans (K7.out.mono (by omega)))
  have hl7' : F7.length ≤ 140 := hl7
  clear hl7
  go_wp2
  go_loopw [48] (fun i wr => ∃ (k : Nat) (u : Value), i = .int .i64 k ∧ k ≤ l.length ∧ OutAt wr o u (F7 ++ snapsBytes (l.take k)) ∧ Below o w7 wr) (fun i _ => l.length - (intOf i).toNat)
  case atStart => exact ⟨0, u7, rfl, by omega, by simpa [snapsBytes] using hO7, Below.refl _ _⟩
  case round =>
    obtain ⟨k, u, rfl, hkl, hu, hbr⟩ := hrel
    have hsl := HSL.out k hkl
    by_cases hlt : k < l.length
    · obtain ⟨b, off, hab, hc0, hc1, hc2⟩ := HCS.out k hlt
      have hkw : Below w.heap.size w wr := KW.out.trans (hbr.mono (by omega))
      have hbw := World.block_lt_of_cell? _ _ hc0
      have d0 := (hkw.cell (p := ⟨b, off + k * 3, none⟩) hbw).trans hc0
      have d1 := (hkw.cell (p := ⟨b, off + k * 3 + 1, none⟩) hbw).trans hc1
      have d2 := (hkw.cell (p := ⟨b, off + k * 3 + 2, none⟩) hbw).trans hc2
      have HT := Lib.hid (snapsBytes_take l k hlt)
      obtain ⟨x1, x2, x3⟩ := HAT.out k hlt
      obtain ⟨x, hx⟩ : ∃ x, x = l.getD k Snp.zero := ⟨_, rfl⟩
      rw [← hx] at d0 d1 d2 HT x1 x2 x3
      have HXB : Hid (snapBytes x = txt x.name.data.toList ++ (vr x.seq.toNat ++ vr x.upto.toNat)) := rfl
      have s1 := txt_length x.name.data.toList
      have s2 : x.name.data.toList.length = x.name.size := by simp
      rw [s2] at s1
      have HAB := Lib.hid hab
      subst hab
      clear hx hc0 hc1 hc2 s2 hkw
      have hml : (F7 ++ snapsBytes (l.take k)).length ≤ 9240 := by rw [List.length_append]; omega
      generalize hFK : F7 ++ snapsBytes (l.take k) = FK at *
      have HFK := Lib.hid hFK
      clear hFK hsl
      have hua := hu.alloc (.cells #[.string x.name, .int .i64 x.seq, .int .i64 x.upto] 56)
      have hou := hu.lt
      have huo := hu.own_lt
      go_wp2_with fail
      refine (text_new o _ x.name u FK _ hua (by omega) (by simp)).mono ?_
      rintro e w8 ⟨rfl, u8, hO8, ht8⟩
      have hx8 : w8.heap[wr.heap.size]? = some (.cells #[.string x.name, .int .i64 x.seq, .int .i64 x.upto] 56 (0, 0)) := by
        rw [ht8.block _ (by simp) (by omega) (fun e => by have := huo _ e.symm; omega)]; exact heap_alloc_new wr _
      have hb8 := (((Below.refl o wr).alloc (by omega) _).trans (ht8.below hua.own hua.lt))
      have f1 := cell_of_heap hx8 1
      have f2 := cell_of_heap hx8 2
      simp only [List.getElem?_toArray, List.getElem?_cons_zero, List.getElem?_cons_succ] at f1 f2
      have K8 := Lib.hid (hbr.trans hb8)
      have l8 : (FK ++ txt x.name.data.toList).length ≤ 9400 := by rw [List.length_append]; omega
      generalize hF8 : FK ++ txt x.name.data.toList = F8 at *
      have HF8 := Lib.hid hF8
      clear ht8 hx8 hb8 hF8 hu hua huo d0 d1 d2
      go_wp2_with fail
      refine (var_two o _ x.seq x.upto u8 F8 _ (by omega) (by omega) (by omega) (by omega) hO8 (by omega) rfl).mono ?_
      rintro e w9 ⟨rfl, u9, hO9, ht9, _⟩
      have K9 := Lib.hid (K8.out.trans (ht9.below hO8.own hO8.lt))
      have HO9 := Lib.hid hO9
      clear hO8 ht9 hO9
      go_wp2
      go_roundw
      case rel =>
        refine ⟨k + 1, u9, by go_num, by omega, ?_, K9.out⟩
        have := HO9.out
        rw [HT.out, HXB.out, ← List.append_assoc, HFK.out, ← List.append_assoc, HF8.out]
        exact this
      case measure => simp [intOf]; omega
    · obtain rfl : k = l.length := by omega
      rw [List.take_length] at hu hsl
      have hb9 : Below w.heap.size w wr := KW.out.trans (hbr.mono (by omega))
      have HE2 : Hid (enc M = sealed (F7 ++ snapsBytes l)) := by
        show _ = _
        rw [HE.out, HM.out]
      have hsz : (F7 ++ snapsBytes l).length ≤ 140737488351232 := by rw [List.length_append]; omega
      go_wp2_with fail
      refine (string_any o u _ wr hu).mono ?_
      rintro e wr ⟨rfl, rfl⟩
      generalize hFF : F7 ++ snapsBytes l = FF at *
      have HFF := Lib.hid hFF
      clear hFF
      go_wp2_with fail
      refine (seal_any (str FF) wr (by rw [str_size]; exact hsz)).mono ?_
      rintro e w9 ⟨rfl, hb10⟩
      have hb11 := hb9.trans (hb10.mono hb9.size)
      rw [str_data, ← HE2.out]
      have HMM := Lib.hid HM.out
      clear hb9 hb10
      go_wp2
      go_ret2
      exact ⟨by rw [← HMM.out]; rfl, hb11⟩
end Go.Proofs.Ytmkcphelmgkipaa

/- Plain functions on lists of bytes: what is read out of them. -/
namespace Go.Proofs.Ytmkcphelmgkipaa
open Go.RowKit

/-- How many bytes a number has, by its first byte. -/
def lead (c : Nat) : Nat :=
  if c < 128 then 1 else if c < 192 then 2 else if c < 224 then 3 else if c < 240 then 4 else if c < 248 then 5 else if c < 252 then 6 else if c < 254 then 7 else if c < 255 then 8 else 9
theorem lead_bd (c : Nat) : 1 ≤ lead c ∧ lead c ≤ 9 := by
  unfold lead; repeat' split
  all_goals omega

/-- Bytes as a number, the high one first, behind another. -/
def beFrom (x : Nat) (l : List UInt8) : Nat := l.foldl (fun x c => 256 * x + c.toNat) x
theorem beFrom_snoc (x : Nat) (l : List UInt8) (c : UInt8) : beFrom x (l ++ [c]) = 256 * beFrom x l + c.toNat := by simp [beFrom]
theorem beFrom_eq (x : Nat) (l : List UInt8) : beFrom x l = x * 256 ^ l.length + beFrom 0 l := by
  induction l generalizing x with
  | nil => simp [beFrom]
  | cons c l ih =>
    have h1 := ih (256 * x + c.toNat)
    have h2 := ih (256 * 0 + c.toNat)
    show beFrom (256 * x + c.toNat) l = _
    have h3 : beFrom 0 (c :: l) = beFrom (256 * 0 + c.toNat) l := rfl
    rw [h1, h3, h2, List.length_cons, Nat.pow_succ, Nat.add_mul, Nat.add_mul]
    have : 256 * x * 256 ^ l.length = x * (256 ^ l.length * 256) := by rw [Nat.mul_comm 256 x, Nat.mul_assoc, Nat.mul_comm 256]
    rw [this]; simp; omega
theorem beFrom_lt (l : List UInt8) : beFrom 0 l < 256 ^ l.length := by
  induction l with
  | nil => simp [beFrom]
  | cons c l ih =>
    have h3 : beFrom 0 (c :: l) = beFrom c.toNat l := by show beFrom (256 * 0 + c.toNat) l = _; simp
    have hc := UInt8.toNat_lt c
    rw [h3, beFrom_eq, List.length_cons, Nat.pow_succ]
    have : c.toNat * 256 ^ l.length ≤ 255 * 256 ^ l.length := Nat.mul_le_mul_right _ (by omega)
    omega

theorem be_mod (x k n : Nat) (h : k ≤ n) : be (x % 256 ^ n) k = be x k := by
  induction k with
  | zero => rfl
  | succ k ih =>
    simp only [be]
    rw [ih (by omega)]
    congr 2
    have h1 : 256 ^ n = 256 ^ k * 256 ^ (n - k) := by rw [← Nat.pow_add]; congr 1; omega
    rw [h1, Nat.mod_mul_right_div_self]
    have h2 : 256 ^ (n - k) = 256 * 256 ^ (n - k - 1) := by rw [← Nat.pow_succ']; congr 1; omega
    rw [h2, Nat.mod_mul_right_mod]

theorem be_beFrom (l : List UInt8) : be (beFrom 0 l) l.length = l := by
  induction l with
  | nil => rfl
  | cons c l ih =>
    have h3 : beFrom 0 (c :: l) = beFrom c.toNat l := by show beFrom (256 * 0 + c.toNat) l = _; simp
    have hc := UInt8.toNat_lt c
    have hl := beFrom_lt l
    rw [h3, beFrom_eq, List.length_cons]
    have hd : (c.toNat * 256 ^ l.length + beFrom 0 l) / 256 ^ l.length = c.toNat := by
      rw [Nat.mul_comm, Nat.mul_add_div (Nat.pow_pos (by omega)), Nat.div_eq_of_lt hl]; rfl
    simp only [be]
    rw [hd]
    congr 1
    · rw [Nat.mod_eq_of_lt hc]; simp
    · rw [← be_mod _ _ l.length (Nat.le_refl _), Nat.mul_comm, Nat.mul_add_mod, Nat.mod_eq_of_lt hl, ih]

theorem beFrom_be (x n : Nat) : beFrom 0 (be x n) = x % 256 ^ n := by
  induction n with
  | zero => simp [be, beFrom]; omega
  | succ n ih =>
    have h3 : beFrom 0 (be x (n + 1)) = beFrom (UInt8.ofNat (x / 256 ^ n % 256)).toNat (be x n) := by show beFrom (256 * 0 + _) _ = _; simp
    rw [h3, beFrom_eq, ih, be_length, UInt8.toNat_ofNat', Nat.mod_mod, Nat.pow_succ, Nat.mod_mul]
    rw [Nat.mul_comm]; omega

/-- The number at the beginning, and how many bytes it has. -/
def rvar : List UInt8 → Option (Nat × Nat)
  | [] => none
  | c :: t =>
    if t.length + 1 < lead c.toNat then none
    else if vsz (beFrom (if lead c.toNat = 9 then 0 else c.toNat - hd (lead c.toNat)) (t.take (lead c.toNat - 1))) = lead c.toNat then
      some (beFrom (if lead c.toNat = 9 then 0 else c.toNat - hd (lead c.toNat)) (t.take (lead c.toNat - 1)), lead c.toNat)
    else none

theorem rvar_cons (c : UInt8) (t : List UInt8) : rvar (c :: t) =
    if t.length + 1 < lead c.toNat then none
    else if vsz (beFrom (if lead c.toNat = 9 then 0 else c.toNat - hd (lead c.toNat)) (t.take (lead c.toNat - 1))) = lead c.toNat then
      some (beFrom (if lead c.toNat = 9 then 0 else c.toNat - hd (lead c.toNat)) (t.take (lead c.toNat - 1)), lead c.toNat)
    else none := rfl

theorem lead_hd (c : Nat) (hc : c < 256) (h : lead c ≠ 9) : hd (lead c) ≤ c ∧ c - hd (lead c) < 2 ^ (8 - lead c) := by
  unfold lead at h ⊢
  repeat' split
  all_goals (simp only [hd, Nat.reduceSub, Nat.reducePow]; first | omega | skip)
  all_goals simp_all

theorem lead_nine (c : Nat) (hc : c < 256) (h : lead c = 9) : c = 255 := by
  unfold lead at h
  repeat' split at h
  all_goals omega

theorem lead_of (n y : Nat) (h1 : 1 ≤ n) (h8 : n ≤ 8) (hy : y < 2 ^ (8 - n)) : lead (hd n + y) = n := by
  have : n = 1 ∨ n = 2 ∨ n = 3 ∨ n = 4 ∨ n = 5 ∨ n = 6 ∨ n = 7 ∨ n = 8 := by omega
  rcases this with h | h | h | h | h | h | h | h <;> subst h <;> simp only [hd, Nat.reduceSub, Nat.reducePow] at hy ⊢ <;> unfold lead <;> (repeat' split) <;> omega

theorem rvar_bd {r : List UInt8} {x n : Nat} (h : rvar r = some (x, n)) : x < 18446744073709551616 ∧ 1 ≤ n ∧ n ≤ r.length := by
  cases r with
  | nil => simp [rvar] at h
  | cons c t =>
    have hb := lead_bd c.toNat
    have hc := UInt8.toNat_lt c
    rw [rvar_cons] at h
    split at h
    · cases h
    · rename_i hl
      by_cases hv : vsz (beFrom (if lead c.toNat = 9 then 0 else c.toNat - hd (lead c.toNat)) (t.take (lead c.toNat - 1))) = lead c.toNat
      · rw [if_pos hv] at h
        simp only [Option.some.injEq, Prod.mk.injEq] at h
        obtain ⟨hx, hn⟩ := h
        have ht : (t.take (lead c.toNat - 1)).length = lead c.toNat - 1 := by rw [List.length_take]; omega
        have hlt := beFrom_lt (t.take (lead c.toNat - 1))
        rw [beFrom_eq] at hx
        rw [ht] at hlt hx
        refine ⟨?_, by omega, by simp; omega⟩
        by_cases h9 : lead c.toNat = 9
        · rw [if_pos h9] at hx
          rw [h9] at hlt hx
          simp only [Nat.reduceSub, Nat.reducePow, Nat.zero_mul, Nat.zero_add] at hlt hx
          omega
        · rw [if_neg h9] at hx
          have hlh := lead_hd _ hc h9
          have e256 : (256 : Nat) ^ (lead c.toNat - 1) = 2 ^ (8 * (lead c.toNat - 1)) := by rw [Nat.pow_mul]
          have h1 : (c.toNat - hd (lead c.toNat)) * 256 ^ (lead c.toNat - 1) + 256 ^ (lead c.toNat - 1) ≤ 2 ^ (8 - lead c.toNat) * 256 ^ (lead c.toNat - 1) := by
            rw [← Nat.succ_mul]; exact Nat.mul_le_mul_right _ hlh.2
          have h2 : 2 ^ (8 - lead c.toNat) * 256 ^ (lead c.toNat - 1) ≤ 2 ^ 56 := by
            rw [e256, ← Nat.pow_add]; exact Nat.pow_le_pow_right (by omega) (by omega)
          simp only [Nat.reducePow] at h2
          omega
      · rw [if_neg hv] at h; cases h

theorem rvar_sound {r : List UInt8} {x n : Nat} (h : rvar r = some (x, n)) : n = (vr x).length ∧ r = vr x ++ r.drop n := by
  have hbd := rvar_bd h
  cases r with
  | nil => simp [rvar] at h
  | cons c t =>
    have hb := lead_bd c.toNat
    have hc := UInt8.toNat_lt c
    rw [rvar_cons] at h
    split at h
    · cases h
    · rename_i hl
      by_cases hv : vsz (beFrom (if lead c.toNat = 9 then 0 else c.toNat - hd (lead c.toNat)) (t.take (lead c.toNat - 1))) = lead c.toNat
      · rw [if_pos hv] at h
        simp only [Option.some.injEq, Prod.mk.injEq] at h
        obtain ⟨hx, hn⟩ := h
        rw [hx] at hv
        have ht : (t.take (lead c.toNat - 1)).length = lead c.toNat - 1 := by rw [List.length_take]; omega
        have hlt := beFrom_lt (t.take (lead c.toNat - 1))
        have hbe := be_beFrom (t.take (lead c.toNat - 1))
        have hx' := hx
        rw [beFrom_eq] at hx'
        rw [ht] at hlt hx' hbe
        have hbe2 : be x (lead c.toNat - 1) = t.take (lead c.toNat - 1) := by
          rw [← hx', ← be_mod _ _ (lead c.toNat - 1) (Nat.le_refl _), Nat.mul_comm, Nat.mul_add_mod, Nat.mod_eq_of_lt hlt, hbe]
        have hdv : x / 256 ^ (lead c.toNat - 1) = if lead c.toNat = 9 then 0 else c.toNat - hd (lead c.toNat) := by
          rw [← hx', Nat.mul_comm, Nat.mul_add_div (Nat.pow_pos (by omega)), Nat.div_eq_of_lt hlt]; rfl
        have hvr : vr x = c :: t.take (lead c.toNat - 1) := by
          unfold vr
          rw [hv, hbe2, hdv]
          congr 1
          by_cases h9 : lead c.toNat = 9
          · rw [if_pos h9, h9]
            have := lead_nine _ hc h9
            show UInt8.ofNat 255 = c
            apply UInt8.toNat_inj.1; rw [this]; rfl
          · rw [if_neg h9]
            have := lead_hd _ hc h9
            rw [show hd (lead c.toNat) + (c.toNat - hd (lead c.toNat)) = c.toNat by omega]
            simp
        refine ⟨by rw [vr_length, hv, hn], ?_⟩
        rw [hvr, ← hn]
        obtain ⟨k, hk⟩ : ∃ k, lead c.toNat = k + 1 := ⟨lead c.toNat - 1, by omega⟩
        rw [hk]
        simp
      · rw [if_neg hv] at h; cases h

theorem rvar_vr (x : Nat) (hx : x < 18446744073709551616) (r : List UInt8) : rvar (vr x ++ r) = some (x, (vr x).length) := by
  have hz := vsz_bd x
  have hcell : vr x = UInt8.ofNat (hd (vsz x) + x / 256 ^ (vsz x - 1)) :: be x (vsz x - 1) := rfl
  have hcn : (UInt8.ofNat (hd (vsz x) + x / 256 ^ (vsz x - 1))).toNat = hd (vsz x) + x / 256 ^ (vsz x - 1) ∧ lead (hd (vsz x) + x / 256 ^ (vsz x - 1)) = vsz x ∧
      beFrom (if lead (hd (vsz x) + x / 256 ^ (vsz x - 1)) = 9 then 0 else hd (vsz x) + x / 256 ^ (vsz x - 1) - hd (vsz x)) (be x (vsz x - 1)) = x := by
    by_cases h9 : vsz x = 9
    · rw [h9]
      have h0 : x / 256 ^ (9 - 1) = 0 := by simp only [Nat.reduceSub, Nat.reducePow]; omega
      rw [h0]
      refine ⟨rfl, rfl, ?_⟩
      rw [if_pos (show lead (hd 9 + 0) = 9 from rfl), beFrom_be]
      simp only [Nat.reduceSub, Nat.reducePow]; omega
    · have ht := top_lt x (vsz x) rfl (by omega) hz.1
      have hlo := lead_of (vsz x) _ hz.1 (by omega) ht
      have hto := (top_or x (vsz x) rfl (by omega) hz.1).2
      refine ⟨by rw [UInt8.toNat_ofNat', Nat.mod_eq_of_lt (by simpa using hto)], hlo, ?_⟩
      rw [hlo, if_neg h9, Nat.add_sub_cancel_left, beFrom_eq, be_length, beFrom_be]
      have := Nat.div_add_mod x (256 ^ (vsz x - 1))
      rw [Nat.mul_comm] at this
      exact this
  have htake : (be x (vsz x - 1) ++ r).take (vsz x - 1) = be x (vsz x - 1) := by rw [List.take_append_of_le_length (by rw [be_length]; omega), List.take_of_length_le (by rw [be_length]; omega)]
  rw [hcell, List.cons_append]
  rw [rvar_cons, hcn.1, hcn.2.1]
  have h3 := hcn.2.2
  rw [hcn.2.1] at h3
  rw [htake, h3, if_neg (by rw [List.length_append, be_length]; omega), if_pos rfl, List.length_cons, be_length]
  congr 2; omega

end Go.Proofs.Ytmkcphelmgkipaa

namespace Go.Proofs.Ytmkcphelmgkipaa
open Go.RowKit
attribute [local go_sem ↓] Go.wp_at_zero Go.wp_at_succ

/-- A reader of s, in the block o: where it stands, and its error. -/
def InAt (w : World) (o : Nat) (a e : Int) (s : ByteArray) : Prop := w.heap[o]? = some (.cells #[.int .i64 a, .int .i64 e, .string s] 103 (0, 0))

theorem InAt.c0 {w : World} {o : Nat} {a e : Int} {s : ByteArray} (h : InAt w o a e s) : w.cell? ⟨o, 0, none⟩ = some (.int .i64 a) := by simp [World.cell?, show w.heap[o]? = _ from h]
theorem InAt.c1 {w : World} {o : Nat} {a e : Int} {s : ByteArray} (h : InAt w o a e s) : w.cell? ⟨o, 1, none⟩ = some (.int .i64 e) := by simp [World.cell?, show w.heap[o]? = _ from h]
theorem InAt.c2 {w : World} {o : Nat} {a e : Int} {s : ByteArray} (h : InAt w o a e s) : w.cell? ⟨o, 2, none⟩ = some (.string s) := by simp [World.cell?, show w.heap[o]? = _ from h]
theorem InAt.f0 {w : World} {o : Nat} {a e : Int} {s : ByteArray} (h : InAt w o a e s) (i : Nat) : w.frozen? ⟨o, i, none⟩ = false := by simp [World.frozen?, show w.heap[o]? = _ from h]

set_option maxHeartbeats 1000000 in
set_option maxRecDepth 100000 in
theorem ready_any (o : Nat) (a e : Int) (s : ByteArray) (w : World) (h : InAt w o a e s) :
    Calls Try.prog 59 #[.pointer (some ⟨o, 0, none⟩)] w fun e' w' => e' = .returned (.bool (e == 0)) ∧ w = w' := by
  have h1 := h.c1
  go_enter Try.func59, Try.ntmps59
  go_wp2
  go_ret
  exact ⟨rfl, rfl⟩

set_option maxHeartbeats 1000000 in
set_option maxRecDepth 100000 in
theorem at_any (o : Nat) (a e : Int) (s : ByteArray) (w : World) (h : InAt w o a e s) :
    Calls Try.prog 56 #[.pointer (some ⟨o, 0, none⟩)] w fun e' w' => e' = .returned (.int .i64 a) ∧ w = w' := by
  have h1 := h.c0
  go_enter Try.func56, Try.ntmps56
  go_wp2
  go_ret
  exact ⟨rfl, rfl⟩

set_option maxHeartbeats 1000000 in
set_option maxRecDepth 100000 in
theorem err_any (o : Nat) (a e : Int) (s : ByteArray) (w : World) (h : InAt w o a e s) :
    Calls Try.prog 62 #[.pointer (some ⟨o, 0, none⟩)] w fun e' w' => e' = .returned (.int .i64 e) ∧ w = w' := by
  have h1 := h.c1
  go_enter Try.func62, Try.ntmps62
  go_wp2
  go_ret
  exact ⟨rfl, rfl⟩

set_option maxHeartbeats 1000000 in
set_option maxRecDepth 100000 in
theorem stand_any (o : Nat) (a e a' e' : Int) (s : ByteArray) (w : World) (h : InAt w o a e s) :
    Calls Try.prog 58 #[.pointer (some ⟨o, 0, none⟩), .int .i64 a', .int .i64 e'] w fun r w' => r = .returned (.tuple #[]) ∧ InAt w' o a' e' s ∧ KeepsBut (fun k => k = o) w w' := by
  have h0 := h.c0
  have h1 := h.c1
  have f0 := h.f0 0
  have f1 := h.f0 1
  have H := Lib.hid h
  clear h
  go_enter Try.func58, Try.ntmps58
  go_wp2
  go_end0
  refine ⟨rfl, ?_, (KeepsBut.setCell (X := fun k => k = o) w (p := ⟨o, 0, none⟩) rfl _).trans (KeepsBut.setCell (X := fun k => k = o) _ (p := ⟨o, 1, none⟩) rfl _)⟩
  have e1 := heap_setCell_same w o 0 _ 103 (.int .i64 a') H.out
  have e2 := heap_setCell_same _ o 1 _ 103 (.int .i64 e') e1
  exact e2

set_option maxHeartbeats 1000000 in
set_option maxRecDepth 100000 in
theorem left_any (o a : Nat) (e : Int) (s : ByteArray) (w : World) (h : InAt w o a e s) (ha : a ≤ s.size) (hs : s.size ≤ 140737488351232) :
    Calls Try.prog 63 #[.pointer (some ⟨o, 0, none⟩)] w fun e' w' => e' = .returned (.int .i64 ((s.size : Int) - a)) ∧ ∃ n, w' = w.drewN n := by
  have h0 := h.c0
  have h2 := h.c2
  go_enter Try.func63, Try.ntmps63
  go_wp2
  go_quiet (fail)
  go_wp2
  go_ret
  exact ⟨rfl, _, rfl⟩
end Go.Proofs.Ytmkcphelmgkipaa

namespace Go.Proofs.Ytmkcphelmgkipaa
open Go.RowKit
attribute [local go_sem ↓] Go.wp_at_zero Go.wp_at_succ

theorem InAt.drewN {w : World} {o : Nat} {a e : Int} {s : ByteArray} (h : InAt w o a e s) (n : Nat) : InAt (w.drewN n) o a e s := h
theorem keeps_drewN (X : Nat → Prop) (w : World) (n : Nat) : KeepsBut X w (w.drewN n) := ⟨rfl, rfl, rfl, Nat.le_refl _, fun _ _ _ => rfl⟩

set_option maxHeartbeats 1000000 in
set_option maxRecDepth 100000 in
theorem take_dead (o : Nat) (a e n : Int) (s : ByteArray) (w : World) (h : InAt w o a e s) (he : e ≠ 0) :
    Calls Try.prog 57 #[.pointer (some ⟨o, 0, none⟩), .int .i64 n] w fun e' w' => e' = .returned (.string (str [])) ∧ w = w' := by
  have HR := Lib.hid (ready_any o a e s w h)
  have hz : (e == 0) = false := by rw [beq_eq_false_iff_ne]; exact he
  clear h he
  go_enter Try.func57, Try.ntmps57
  go_wp2_with (go_at_call 59; refine HR.out.mono ?_; rintro r w ⟨rfl, rfl⟩)
  go_ret
  exact ⟨rfl, rfl⟩

set_option maxHeartbeats 1000000 in
set_option maxRecDepth 100000 in
theorem take_short (o a n : Nat) (s : ByteArray) (w : World) (h : InAt w o a 0 s) (ha : a ≤ s.size) (hs : s.size ≤ 140737488351232) (hn : s.size - a < n) :
    Calls Try.prog 57 #[.pointer (some ⟨o, 0, none⟩), .int .i64 n] w fun e' w' => e' = .returned (.string (str [])) ∧ InAt w' o a 10 s ∧ KeepsBut (fun k => k = o) w w' := by
  have HR := Lib.hid (ready_any o a 0 s w h)
  have h0 := h.c0
  have h2 := h.c2
  have hlt : (s.size : Int) - a < n := by omega
  have H := Lib.hid h
  clear h
  go_enter Try.func57, Try.ntmps57
  go_wp2_with fail
  refine HR.out.mono ?_
  rintro r w ⟨rfl, rfl⟩
  go_wp2
  go_quiet (fail)
  go_wp2
  go_region_with (go_at_call 58; refine (stand_any o a 0 _ _ s _ ?_).mono ?_; (exact H.out); rintro r w' ⟨rfl, hI, hK⟩)
  all_goals
    go_wp2
    go_ret
    exact ⟨rfl, hI, (keeps_drewN _ w _).trans hK⟩

set_option maxHeartbeats 1000000 in
set_option maxRecDepth 100000 in
theorem take_ok (o a n : Nat) (s : ByteArray) (w : World) (h : InAt w o a 0 s) (hs : s.size ≤ 140737488351232) (hn : a + n ≤ s.size) :
    Calls Try.prog 57 #[.pointer (some ⟨o, 0, none⟩), .int .i64 n] w fun e' w' => e' = .returned (.string (s.extract a (a + n))) ∧ InAt w' o ((a + n : Nat) : Int) 0 s ∧ KeepsBut (fun k => k = o) w w' := by
  have HR := Lib.hid (ready_any o a 0 s w h)
  have h0 := h.c0
  have h2 := h.c2
  have f0 := h.f0 0
  have hlt : (n : Int) ≤ (s.size : Int) - a := by omega
  have H := Lib.hid h
  clear h
  go_enter Try.func57, Try.ntmps57
  go_wp2_with fail
  refine HR.out.mono ?_
  rintro r w ⟨rfl, rfl⟩
  go_wp2
  go_quiet (fail)
  go_wp2
  obtain ⟨W, hW⟩ : ∃ W, W = (w.drewN nq).setCell ⟨o, 0, none⟩ (.int .i64 ((a : Int) + n)) := ⟨_, rfl⟩
  rw [← hW]
  have hI : InAt W o ((a : Int) + n) 0 s := by rw [hW]; exact heap_setCell_same (w.drewN nq) o 0 _ 103 (.int .i64 ((a : Int) + n)) H.out
  have hK : KeepsBut (fun k => k = o) w W := by rw [hW]; exact (keeps_drewN _ w nq).trans (KeepsBut.setCell (X := fun k => k = o) _ (p := ⟨o, 0, none⟩) rfl _)
  have g0 := hI.c0
  have g2 := hI.c2
  have b1 : (0 : Int) ≤ (a : Int) + n - n := by omega
  have b2 : (a : Int) + n - n ≤ (a : Int) + n := by omega
  have b3 : (a : Int) + n ≤ (s.size : Int) := by omega
  have HI := Lib.hid hI
  have HK := Lib.hid hK
  clear hW hI hK h0 h2 f0
  go_quiet (fail)
  go_wp2
  go_ret
  exact ⟨by show Ending.returned (.string _) = _; congr 3, HI.out, HK.out.trans (keeps_drewN _ W _)⟩

theorem wrap_u64_eq (n : Int) : IntKind.u64.wrap n = n % 18446744073709551616 := by simp [IntKind.wrap, IntKind.bits, IntKind.signed]

theorem bits_u64_or (x y : Nat) (hx : x < 18446744073709551616) (hy : y < 18446744073709551616) : bits BinOp.or IntKind.u64 x y = ((x ||| y : Nat) : Int) := by
  have e : ∀ a : Nat, a < 18446744073709551616 → (BitVec.ofInt 64 (a : Int)).toNat = a := fun a ha => by
    rw [BitVec.ofInt_natCast, BitVec.toNat_ofNat]; exact Nat.mod_eq_of_lt ha
  have h1 : x ||| y < 2 ^ 64 := Nat.or_lt_two_pow (by omega) (by omega)
  show IntKind.u64.wrap ((BitVec.ofInt 64 (x : Int) ||| BitVec.ofInt 64 (y : Int)).toNat : Int) = _
  rw [BitVec.toNat_or, e x hx, e y hy, wrap_u64_eq]; omega

/-- High bits and low bits. -/
theorem or_join (h l k : Nat) (hl : l < 2 ^ k) (hs : 2 ^ k * h + l < 18446744073709551616) : bits BinOp.or IntKind.u64 ((2 ^ k * h : Nat) : Int) (l : Int) = ((2 ^ k * h + l : Nat) : Int) := by
  rw [bits_u64_or _ _ (by omega) (by omega), ← Nat.two_pow_add_eq_or_of_lt hl]

theorem or_join' (h l k : Nat) (hl : l < 2 ^ k) (hs : 2 ^ k * h + l < 18446744073709551616) : bits BinOp.or IntKind.u64 (l : Int) ((2 ^ k * h : Nat) : Int) = ((2 ^ k * h + l : Nat) : Int) := by
  rw [bits_u64_or _ _ (by omega) (by omega), Nat.or_comm, ← Nat.two_pow_add_eq_or_of_lt hl]

theorem beFrom_take_lt (s : ByteArray) (k j : Nat) (hk : k ≤ j) : beFrom 0 (s.data.toList.take k) < 256 ^ j := by
  have h1 := beFrom_lt (s.data.toList.take k)
  have h2 : (s.data.toList.take k).length ≤ k := by rw [List.length_take]; omega
  exact Nat.lt_of_lt_of_le h1 (Nat.pow_le_pow_right (by omega) (by omega))

set_option maxHeartbeats 1000000 in
set_option maxRecDepth 100000 in
theorem wnumber_any (s : ByteArray) (w : World) (hs : s.size ≤ 8) :
    Calls Try.prog 60 #[.string s] w fun e' w' => e' = .returned (.int .u64 (beFrom 0 s.data.toList : Nat)) ∧ w = w' := by
  go_enter Try.func60, Try.ntmps60
  go_wp2
  go_loop [3, 7] (fun x i => ∃ k : Nat, i = .int .i64 k ∧ k ≤ s.size ∧ x = .int .u64 (beFrom 0 (s.data.toList.take k) : Nat)) (fun _ i => s.size - (intOf i).toNat)
  case atStart => exact ⟨0, rfl, by omega, rfl⟩
  case round =>
    obtain ⟨k, rfl, hk, rfl⟩ := hrel
    by_cases hlt : k < s.size
    · have hb := UInt8.toNat_lt s[k]
      have hx := beFrom_take_lt s k 7 (by omega)
      simp only [Nat.reducePow] at hx
      have HT := Lib.hid (take_snoc s k hlt)
      have HS := Lib.hid (beFrom_snoc 0 (s.data.toList.take k) s[k])
      generalize hX : beFrom 0 (s.data.toList.take k) = x at *
      have HX := Lib.hid hX
      clear hX
      go_wp2
      go_round
      case rel =>
        refine ⟨k + 1, by go_num, by omega, ?_⟩
        rw [HT.out, HS.out]
        have h1 := or_join x s[k].toNat 8 hb (by omega)
        have h2 : ((2 ^ 8 * x : Nat) : Int) = (x : Int) * 256 := by omega
        rw [h2] at h1
        rw [h1]
      case measure => simp [intOf]; omega
    · obtain rfl : k = s.size := by omega
      go_wp2
      go_ret
      exact ⟨ret_int (by rw [List.take_of_length_le (by simp)]), rfl⟩
end Go.Proofs.Ytmkcphelmgkipaa

namespace Go.Proofs.Ytmkcphelmgkipaa
open Go.RowKit
attribute [local go_sem ↓] Go.wp_at_zero Go.wp_at_succ

theorem not_u8 : ∀ c : Fin 256, bits BinOp.xor IntKind.u8 IntKind.u8.max (c.val : Int) = ((255 - c.val : Nat) : Int) := by decide +kernel
theorem lead_lz : ∀ c : Fin 256, 8 - Lib.bitLen (255 - c.val) + 1 = lead c.val ∧ Lib.bitLen (255 - c.val) ≤ 8 := by decide +kernel
theorem low_bits : ∀ c : Fin 256, lead c.val ≠ 9 → bits BinOp.andNot IntKind.u8 (c.val : Int) (hd (lead c.val) : Int) = ((c.val - hd (lead c.val) : Nat) : Int) := by decide +kernel

theorem drop_at (s : ByteArray) (a : Nat) (h : a < s.size) : s.data.toList.drop a = s[a] :: s.data.toList.drop (a + 1) := by
  rw [List.drop_eq_getElem_cons (by simpa using h)]; rfl

/-- A reader that failed. -/
def Dead (w : World) (o : Nat) (s : ByteArray) : Prop := ∃ a e : Int, e ≠ 0 ∧ InAt w o a e s

set_option maxHeartbeats 1000000 in
set_option maxRecDepth 100000 in
theorem var_dead (o : Nat) (a e : Int) (s : ByteArray) (w : World) (h : InAt w o a e s) (he : e ≠ 0) :
    Calls Try.prog 61 #[.pointer (some ⟨o, 0, none⟩)] w fun e' w' => e' = .returned (.int .u64 0) ∧ w = w' := by
  have HR := Lib.hid (ready_any o a e s w h)
  have hz : (e == 0) = false := by rw [beq_eq_false_iff_ne]; exact he
  clear h he
  go_enter Try.func61, Try.ntmps61
  go_wp2_with (go_at_call 59; refine HR.out.mono ?_; rintro r w ⟨rfl, rfl⟩)
  go_ret
  exact ⟨rfl, rfl⟩

set_option maxHeartbeats 1000000 in
set_option maxRecDepth 100000 in
theorem var_empty (o : Nat) (s : ByteArray) (w : World) (h : InAt w o s.size 0 s) (hs : s.size ≤ 140737488351232) :
    Calls Try.prog 61 #[.pointer (some ⟨o, 0, none⟩)] w fun e' w' => e' = .returned (.int .u64 0) ∧ Dead w' o s ∧ KeepsBut (fun k => k = o) w w' := by
  have HR := Lib.hid (ready_any o _ 0 s w h)
  have HL := Lib.hid (left_any o s.size 0 s w h (Nat.le_refl _) hs)
  have h0 := h.c0
  have H := Lib.hid h
  clear h
  go_enter Try.func61, Try.ntmps61
  go_wp2_with fail
  refine HR.out.mono ?_
  rintro r w ⟨rfl, rfl⟩
  go_wp2_with fail
  refine HL.out.mono ?_
  rintro r w' ⟨rfl, n, rfl⟩
  rw [Int.sub_self]
  go_wp2_with fail
  refine (stand_any o s.size 0 _ _ s _ (H.out.drewN n)).mono ?_
  rintro r w' ⟨rfl, hI, hK⟩
  have HI := Lib.hid hI
  clear hI
  go_wp2
  go_ret
  exact ⟨rfl, ⟨_, _, by omega, HI.out⟩, (keeps_drewN _ w _).trans hK⟩

set_option maxHeartbeats 1000000 in
set_option maxRecDepth 100000 in
theorem var_short (o a : Nat) (s : ByteArray) (w : World) (h : InAt w o a 0 s) (hs : s.size ≤ 140737488351232) (ha : a < s.size) (hn : s.size - a < lead s[a].toNat) :
    Calls Try.prog 61 #[.pointer (some ⟨o, 0, none⟩)] w fun e' w' => e' = .returned (.int .u64 0) ∧ Dead w' o s ∧ KeepsBut (fun k => k = o) w w' := by
  have HR := Lib.hid (ready_any o _ 0 s w h)
  have HL := Lib.hid (left_any o a 0 s w h (by omega) hs)
  have h0 := h.c0
  have h2 := h.c2
  have H := Lib.hid h
  have hb := UInt8.toNat_lt s[a]
  have N1 := Lib.hid (not_u8 ⟨s[a].toNat, hb⟩)
  have N2 := Lib.hid (lead_lz ⟨s[a].toNat, hb⟩)
  have hne : ((s.size : Int) - a == 0) = false := by rw [beq_eq_false_iff_ne]; omega
  generalize hld : lead s[a].toNat = n at *
  have HLD := Lib.hid hld
  clear h hld
  go_enter Try.func61, Try.ntmps61
  go_wp2_with fail
  refine HR.out.mono ?_
  rintro r w ⟨rfl, rfl⟩
  go_wp2_with fail
  refine HL.out.mono ?_
  rintro r w' ⟨rfl, nq, rfl⟩
  go_wp2_with fail
  rw [N1.out]
  refine (Try.bits_LeadingZeros8 _ _ (by omega) (by omega)).mono ?_
  rintro r w' ⟨rfl, rfl⟩
  rw [Int.toNat_natCast]
  have e1 : (8 - (Lib.bitLen (255 - s[a].toNat) : Int)) = (n : Int) - 1 := by have := N2.out; omega
  rw [e1]
  clear e1
  have n1 : 1 ≤ n ∧ n ≤ 9 := by have := N2.out; omega
  go_wp2_with fail
  refine (take_short o a n s _ (H.out.drewN nq) (by omega) hs hn).mono ?_
  rintro r w' ⟨rfl, hI, hK⟩
  have HI := Lib.hid hI
  have h1 := hI.c1
  clear hI
  go_wp2
  go_ret
  exact ⟨rfl, ⟨_, _, by omega, HI.out⟩, (keeps_drewN _ w _).trans hK⟩

/-- What the bytes of a number say. -/
def said (s : ByteArray) (a n : Nat) : Nat := beFrom (if n = 9 then 0 else (s.data.toList.getD a 0).toNat - hd n) ((s.data.toList.drop (a + 1)).take (n - 1))

theorem var_val (c d n y : Nat) (h1 : 1 ≤ n) (h9 : n < 9) (hd' : d < 2 ^ (8 - n)) (hy : y < 256 ^ (n - 1)) (h : bits BinOp.andNot IntKind.u8 (c : Int) (hd n : Int) = (d : Int)) :
    bits BinOp.or IntKind.u64 (y : Int) (IntKind.u64.wrap (IntKind.u64.wrap (bits BinOp.andNot IntKind.u8 (c : Int) (hd n : Int)) * 2 ^ min (8 * (n - 1)) 64)) = ((d * 256 ^ (n - 1) + y : Nat) : Int) := by
  have e256 : (256 : Nat) ^ (n - 1) = 2 ^ (8 * (n - 1)) := by rw [Nat.pow_mul]
  have hmin : min (8 * (n - 1)) 64 = 8 * (n - 1) := by omega
  have hdl : d < 256 := by
    have : 2 ^ (8 - n) ≤ 2 ^ 8 := Nat.pow_le_pow_right (by omega) (by omega)
    omega
  have h2 : (d + 1) * 2 ^ (8 * (n - 1)) ≤ 2 ^ (8 - n) * 2 ^ (8 * (n - 1)) := Nat.mul_le_mul_right _ hd'
  have h3 : 2 ^ (8 - n) * 2 ^ (8 * (n - 1)) ≤ 2 ^ 56 := by rw [← Nat.pow_add]; exact Nat.pow_le_pow_right (by omega) (by omega)
  rw [Nat.add_mul, Nat.one_mul] at h2
  rw [e256] at hy ⊢
  rw [h, hmin, wrap_u64_eq, wrap_u64_eq]
  have e1 : ((d : Int) % 18446744073709551616) = d := by omega
  rw [e1]
  have e2 : (d : Int) * 2 ^ (8 * (n - 1)) = ((2 ^ (8 * (n - 1)) * d : Nat) : Int) := by rw [Int.natCast_mul, Int.mul_comm]; simp
  rw [e2]
  have e3 : 2 ^ (8 * (n - 1)) * d = d * 2 ^ (8 * (n - 1)) := Nat.mul_comm _ _
  have e4 : ((2 ^ (8 * (n - 1)) * d : Nat) : Int) % 18446744073709551616 = ((2 ^ (8 * (n - 1)) * d : Nat) : Int) := by rw [e3]; omega
  rw [e4, or_join' d y (8 * (n - 1)) hy (by rw [e3]; omega), e3]

theorem rvar_said_lt (s : ByteArray) (a n : Nat) {d y : Nat} (hn : 1 ≤ n ∧ n < 9) (h : said s a n = d * 256 ^ (n - 1) + y) (hd' : d < 2 ^ (8 - n)) (hy : y < 256 ^ (n - 1)) : said s a n < 18446744073709551616 := by
  have e256 : (256 : Nat) ^ (n - 1) = 2 ^ (8 * (n - 1)) := by rw [Nat.pow_mul]
  have h2 : (d + 1) * 2 ^ (8 * (n - 1)) ≤ 2 ^ (8 - n) * 2 ^ (8 * (n - 1)) := Nat.mul_le_mul_right _ hd'
  have h3 : 2 ^ (8 - n) * 2 ^ (8 * (n - 1)) ≤ 2 ^ 56 := by rw [← Nat.pow_add]; exact Nat.pow_le_pow_right (by omega) (by omega)
  rw [Nat.add_mul, Nat.one_mul] at h2
  rw [e256] at h hy
  omega

/-- What a number's reading leaves. -/
def VarEnd (o a n : Nat) (s : ByteArray) (w : World) (e' : Ending) (w' : World) : Prop :=
  KeepsBut (fun k => k = o) w w' ∧
      ((vsz (said s a n) = n ∧ e' = .returned (.int .u64 (said s a n : Nat)) ∧ InAt w' o ((a + n : Nat) : Int) 0 s) ∨
       (vsz (said s a n) ≠ n ∧ e' = .returned (.int .u64 0) ∧ Dead w' o s))

set_option maxHeartbeats 2000000 in
set_option maxRecDepth 100000 in
theorem var_rest (o a : Nat) (s : ByteArray) (w : World) (h : InAt w o a 0 s) (hs : s.size ≤ 140737488351232) (ha : a < s.size) (hn : lead s[a].toNat ≤ s.size - a) :
    Calls Try.prog 61 #[.pointer (some ⟨o, 0, none⟩)] w (VarEnd o a (lead s[a].toNat) s w) := by
  have HR := Lib.hid (ready_any o _ 0 s w h)
  have HL := Lib.hid (left_any o a 0 s w h (by omega) hs)
  have h0 := h.c0
  have h2 := h.c2
  have H := Lib.hid h
  have hb := UInt8.toNat_lt s[a]
  have N1 := Lib.hid (not_u8 ⟨s[a].toNat, hb⟩)
  have N2 := Lib.hid (lead_lz ⟨s[a].toNat, hb⟩)
  have hne : ((s.size : Int) - a == 0) = false := by rw [beq_eq_false_iff_ne]; omega
  have hld0 := lead_bd s[a].toNat
  have L3 := Lib.hid (low_bits ⟨s[a].toNat, hb⟩)
  generalize hld : lead s[a].toNat = n at *
  have HLD := Lib.hid hld
  clear h hld
  go_enter Try.func61, Try.ntmps61
  go_wp2_with fail
  refine HR.out.mono ?_
  rintro r w ⟨rfl, rfl⟩
  go_wp2_with fail
  refine HL.out.mono ?_
  rintro r w' ⟨rfl, nq, rfl⟩
  go_wp2_with fail
  rw [N1.out]
  refine (Try.bits_LeadingZeros8 _ _ (by omega) (by omega)).mono ?_
  rintro r w' ⟨rfl, rfl⟩
  rw [Int.toNat_natCast]
  have e1 : (8 - (Lib.bitLen (255 - s[a].toNat) : Int)) = (n : Int) - 1 := by have := N2.out; omega
  rw [e1]
  clear e1
  have n1 : 1 ≤ n ∧ n ≤ 9 := by have := N2.out; omega
  go_wp2_with fail
  refine (take_ok o a n s _ (H.out.drewN nq) hs (by omega)).mono ?_
  rintro r w' ⟨rfl, hI, hK⟩
  have HI := Lib.hid hI
  have h1 := hI.c1
  have HKK := Lib.hid ((keeps_drewN _ w nq).trans hK)
  clear hI hK
  have hes : (s.extract a (a + n)).size = n := by simp; omega
  obtain ⟨t, ht⟩ : ∃ t, t = s.extract a (a + n) := ⟨_, rfl⟩
  rw [← ht] at hes ⊢
  have hbs : 1 ≤ t.size := by omega
  have htail : (t.extract 1 t.size).data.toList = (s.data.toList.drop (a + 1)).take (n - 1) := by
    rw [ht, Lib.extract_data, Lib.extract_data, List.drop_take, List.drop_drop, List.take_of_length_le (by simp; omega), show a + n - a - 1 = n - 1 by omega]
  have ht0 : ∀ h : 0 < t.size, t[0].toNat = s[a].toNat := by
    intro h
    have e2 : t.data.toList[0]? = s.data.toList[a]? := by
      rw [ht, Lib.extract_data, List.getElem?_take_of_lt (by omega), List.getElem?_drop]; rfl
    have e3 : t.data.toList[0]? = some t[0] := by rw [List.getElem?_eq_getElem (by simpa using h)]; rfl
    have e4 : s.data.toList[a]? = some s[a] := by rw [List.getElem?_eq_getElem (by simpa using ha)]; rfl
    rw [e3, e4] at e2
    rw [Option.some.inj e2]
  have htz : (t.extract 1 t.size).size ≤ 8 := by simp; omega
  have HTL := Lib.hid htail
  have HT := Lib.hid ht
  have HES := Lib.hid hes
  clear htail ht
  have hyl := beFrom_lt (t.extract 1 t.size).data.toList
  have hyn : (t.extract 1 t.size).data.toList.length = n - 1 := by simp; omega
  rw [hyn] at hyl
  clear hyn hes
  go_wp2_with fail
  refine (wnumber_any _ w' htz).mono ?_
  rintro r w' ⟨rfl, rfl⟩
  rw [HTL.out] at hyl ⊢
  have hsd : (s.data.toList.getD a 0) = s[a] := by
    rw [List.getD_eq_getElem?_getD, List.getElem?_eq_getElem (by simpa using ha)]; rfl
  by_cases h9 : n = 9
  · have hsaid : said s a n = beFrom 0 ((s.data.toList.drop (a + 1)).take (n - 1)) := by unfold said; rw [if_pos h9]
    rw [← hsaid] at hyl ⊢
    have hlt : said s a n < 18446744073709551616 := by
      have : (256 : Nat) ^ (n - 1) = 18446744073709551616 := by rw [h9]
      omega
    obtain ⟨x, hx⟩ : ∃ x, x = said s a n := ⟨_, rfl⟩
    rw [← hx] at hlt hsaid ⊢
    have HXS := Lib.hid hx
    clear hx
    have H9 := Lib.hid h9
    have HS := Lib.hid hsaid
    have hn9 : ¬ n < 9 := by omega
    clear h9 hsaid hyl hsd
    go_wp2_with fail
    refine (size_any x (by omega) (by omega) _).mono ?_
    rintro r w' ⟨rfl, rfl⟩
    rw [Int.toNat_natCast]
    by_cases hv : vsz x = n
    · have hv' : ((vsz x : Int) != (n : Int)) = false := by rw [hv]; simp
      have HV := Lib.hid hv
      clear hv
      go_wp2
      go_ret
      refine ⟨HKK.out, .inl ?_⟩
      rw [← HXS.out]
      exact ⟨HV.out, rfl, HI.out⟩
    · have hv' : ((vsz x : Int) != (n : Int)) = true := by rw [bne_iff_ne]; omega
      have HV := Lib.hid hv
      clear hv
      go_wp2_with fail
      refine (stand_any o _ 0 _ _ s _ HI.out).mono ?_
      rintro r w'' ⟨rfl, hI, hK⟩
      have HI2 := Lib.hid hI
      clear hI
      go_wp2
      go_ret
      refine ⟨HKK.out.trans hK, .inr ?_⟩
      rw [← HXS.out]
      exact ⟨HV.out, rfl, _, _, by omega, HI2.out⟩
  · have hn9 : n < 9 := by omega
    have ht0' := ht0 (by omega)
    have hl9 : lead s[a].toNat ≠ 9 := by rw [HLD.out]; exact h9
    have hlh := lead_hd _ hb hl9
    have hlo := L3.out h9
    simp only [HLD.out] at hlh
    have hsaid : said s a n = (s[a].toNat - hd n) * 256 ^ (n - 1) + beFrom 0 ((s.data.toList.drop (a + 1)).take (n - 1)) := by
      unfold said
      rw [if_neg h9, hsd, beFrom_eq, ← HTL.out]
      congr 2
      rw [show (t.extract 1 t.size).data.toList.length = n - 1 by have := HES.out; simp; omega]
    have hval := var_val s[a].toNat (s[a].toNat - hd n) n (beFrom 0 ((s.data.toList.drop (a + 1)).take (n - 1))) n1.1 hn9 hlh.2 hyl hlo
    rw [← hsaid, ← ht0'] at hval
    have hlt : said s a n < 18446744073709551616 := by
      have := rvar_said_lt s a n (by omega) hsaid hlh.2 hyl
      exact this
    obtain ⟨x, hx⟩ : ∃ x, x = said s a n := ⟨_, rfl⟩
    rw [← hx] at hlt hval
    have HXS := Lib.hid hx
    have HVAL := Lib.hid hval
    have HT0 := Lib.hid ht0'
    generalize hy : beFrom 0 ((s.data.toList.drop (a + 1)).take (n - 1)) = y at *
    clear hy ht0 ht0' h9 hl9 hlh hlo hsaid hval hx
    go_wp2
    go_region_with (go_at_call 74; refine (head_any n (by omega) (by omega) _).mono ?_; rintro e w' ⟨rfl, rfl⟩)
    all_goals
      go_wp2_with fail
      rw [HVAL.out]
      refine (size_any x (by omega) (by omega) _).mono ?_
      rintro r w2 ⟨rfl, rfl⟩
      rw [Int.toNat_natCast]
      by_cases hv : vsz x = n
      · have hv' : ((vsz x : Int) != (n : Int)) = false := by rw [hv]; simp
        have HV := Lib.hid hv
        clear hv
        go_wp2
        go_ret
        refine ⟨HKK.out.trans (keeps_drewN _ w' 1), .inl ?_⟩
        rw [← HXS.out]
        exact ⟨HV.out, rfl, HI.out⟩
      · have hv' : ((vsz x : Int) != (n : Int)) = true := by rw [bne_iff_ne]; omega
        have HV := Lib.hid hv
        clear hv
        go_wp2_with fail
        refine (stand_any o _ 0 _ _ s w'.drew HI.out).mono ?_
        rintro r w'' ⟨rfl, hI, hK⟩
        have HI2 := Lib.hid hI
        clear hI
        go_wp2
        go_ret
        refine ⟨(HKK.out.trans (keeps_drewN _ w' 1)).trans hK, .inr ?_⟩
        rw [← HXS.out]
        exact ⟨HV.out, rfl, _, _, by omega, HI2.out⟩
end Go.Proofs.Ytmkcphelmgkipaa

namespace Go.Proofs.Ytmkcphelmgkipaa
open Go.RowKit
attribute [local go_sem ↓] Go.wp_at_zero Go.wp_at_succ

/-- A reading: from the place a on; none: it has failed, once for all. -/
def rd {α : Type} (z : α) (f : List UInt8 → Option (α × Nat)) (l : List UInt8) : Option Nat → α × Option Nat
  | none => (z, none)
  | some a => match f (l.drop a) with
    | none => (z, none)
    | some (v, n) => (v, some (a + n))
theorem rd_dead {α : Type} (z : α) (f : List UInt8 → Option (α × Nat)) (l : List UInt8) : rd z f l none = (z, none) := rfl
theorem rd_none {α : Type} {z : α} {f : List UInt8 → Option (α × Nat)} {l : List UInt8} {a : Nat} (h : f (l.drop a) = none) : rd z f l (some a) = (z, none) := by simp [rd, h]
theorem rd_some {α : Type} {z : α} {f : List UInt8 → Option (α × Nat)} {l : List UInt8} {a n : Nat} {v : α} (h : f (l.drop a) = some (v, n)) : rd z f l (some a) = (v, some (a + n)) := by simp [rd, h]

def rint (most : Nat) (r : List UInt8) : Option (Nat × Nat) :=
  match rvar r with
  | none => none
  | some (x, n) => if x ≤ most then some (x, n) else none
def rtext (most : Nat) (r : List UInt8) : Option (List UInt8 × Nat) :=
  match rint most r with
  | none => none
  | some (x, n) => if x ≤ r.length - n then some ((r.drop n).take x, n + x) else none
def rfixed (k : Nat) (r : List UInt8) : Option (Nat × Nat) := if r.length < k then none else some (beFrom 0 (r.take k), k)

/-- The reader in block o stands so. -/
def St (w : World) (o : Nat) (s : ByteArray) : Option Nat → Prop
  | none => Dead w o s
  | some a => a ≤ s.size ∧ InAt w o a 0 s

theorem rvar_at (s : ByteArray) (a : Nat) (ha : a < s.size) : rvar (s.data.toList.drop a) =
    if s.size - a < lead s[a].toNat then none else if vsz (said s a (lead s[a].toNat)) = lead s[a].toNat then some (said s a (lead s[a].toNat), lead s[a].toNat) else none := by
  have hsd : (s.data.toList.getD a 0) = s[a] := by
    rw [List.getD_eq_getElem?_getD, List.getElem?_eq_getElem (by simpa using ha)]; rfl
  have hl : (s.data.toList.drop (a + 1)).length + 1 = s.size - a := by simp; omega
  rw [drop_at s a ha, rvar_cons, hl]
  unfold said
  rw [hsd]

def VarPost (o : Nat) (s : ByteArray) (st : Option Nat) (w : World) (e' : Ending) (w' : World) : Prop :=
  KeepsBut (fun k => k = o) w w' ∧ e' = .returned (.int .u64 ((rd 0 rvar s.data.toList st).1 : Nat)) ∧ St w' o s (rd 0 rvar s.data.toList st).2

theorem var_st (o : Nat) (s : ByteArray) (st : Option Nat) (w : World) (h : St w o s st) (hs : s.size ≤ 140737488351232) :
    Calls Try.prog 61 #[.pointer (some ⟨o, 0, none⟩)] w (VarPost o s st w) := by
  cases st with
  | none =>
    obtain ⟨a, e, he, hi⟩ := h
    refine (var_dead o a e s w hi he).mono ?_
    rintro e' w' ⟨rfl, rfl⟩
    exact ⟨KeepsBut.refl _ _, rfl, _, _, he, hi⟩
  | some a =>
    obtain ⟨ha, hi⟩ := h
    by_cases hlt : a < s.size
    · by_cases hn : s.size - a < lead s[a].toNat
      · refine (var_short o a s w hi hs hlt hn).mono ?_
        rintro e' w' ⟨rfl, hd, hk⟩
        have hr : rvar (s.data.toList.drop a) = none := by rw [rvar_at s a hlt, if_pos hn]
        refine ⟨hk, by rw [rd_none hr]; rfl, by rw [rd_none hr]; exact hd⟩
      · refine (var_rest o a s w hi hs hlt (by omega)).mono ?_
        rintro e' w' ⟨hk, ⟨hv, rfl, hi2⟩ | ⟨hv, rfl, hd⟩⟩
        · have hr : rvar (s.data.toList.drop a) = some (said s a (lead s[a].toNat), lead s[a].toNat) := by rw [rvar_at s a hlt, if_neg hn, if_pos hv]
          refine ⟨hk, by rw [rd_some hr], by rw [rd_some hr]; exact ⟨by omega, hi2⟩⟩
        · have hr : rvar (s.data.toList.drop a) = none := by rw [rvar_at s a hlt, if_neg hn, if_neg hv]
          refine ⟨hk, by rw [rd_none hr]; rfl, by rw [rd_none hr]; exact hd⟩
    · obtain rfl : a = s.size := by omega
      refine (var_empty o s w hi hs).mono ?_
      rintro e' w' ⟨rfl, hd, hk⟩
      have hr : rvar (s.data.toList.drop s.size) = none := by rw [List.drop_of_length_le (by simp)]; rfl
      refine ⟨hk, by rw [rd_none hr]; rfl, by rw [rd_none hr]; exact hd⟩

def IntPost (o most : Nat) (s : ByteArray) (st : Option Nat) (w : World) (e' : Ending) (w' : World) : Prop :=
  KeepsBut (fun k => k = o) w w' ∧ e' = .returned (.int .i64 ((rd 0 (rint most) s.data.toList st).1 : Nat)) ∧ St w' o s (rd 0 (rint most) s.data.toList st).2

set_option maxHeartbeats 1000000 in
set_option maxRecDepth 100000 in
theorem int_dead (o most : Nat) (s : ByteArray) (w : World) (h : Dead w o s) (hs : s.size ≤ 140737488351232) :
    Calls Try.prog 31 #[.pointer (some ⟨o, 0, none⟩), .int .i64 most] w fun e' w' => e' = .returned (.int .i64 0) ∧ w = w' := by
  obtain ⟨a, e, he, hi⟩ := h
  have HA := Lib.hid (at_any o a e s w hi)
  have HV := Lib.hid (var_dead o a e s w hi he)
  have HR := Lib.hid (ready_any o a e s w hi)
  have hz : (e == 0) = false := by rw [beq_eq_false_iff_ne]; exact he
  clear he hi
  go_enter Try.func31, Try.ntmps31
  go_wp2_with fail
  refine HA.out.mono ?_
  rintro r w ⟨rfl, rfl⟩
  go_wp2_with fail
  refine HV.out.mono ?_
  rintro r w ⟨rfl, rfl⟩
  go_wp2_with fail
  refine HR.out.mono ?_
  rintro r w ⟨rfl, rfl⟩
  go_wp2
  go_ret
  exact ⟨rfl, rfl⟩

set_option maxHeartbeats 1000000 in
set_option maxRecDepth 100000 in
theorem int_live (o most a : Nat) (s : ByteArray) (w : World) (h : InAt w o a 0 s) (ha : a ≤ s.size) (hs : s.size ≤ 140737488351232) (hm : most ≤ 4611686018427387904) :
    Calls Try.prog 31 #[.pointer (some ⟨o, 0, none⟩), .int .i64 most] w (IntPost o most s (some a) w) := by
  have HA := Lib.hid (at_any o a 0 s w h)
  have HV := Lib.hid (var_st o s (some a) w ⟨ha, h⟩ hs)
  go_enter Try.func31, Try.ntmps31
  go_wp2_with fail
  refine HA.out.mono ?_
  rintro r w ⟨rfl, rfl⟩
  go_wp2_with fail
  refine HV.out.mono ?_
  rintro r w1 ⟨hk, rfl, hst⟩
  cases hr : rvar (s.data.toList.drop a) with
  | none =>
    have hp : rint most (s.data.toList.drop a) = none := by unfold rint; rw [hr]
    rw [rd_none hr] at hst ⊢
    obtain ⟨a', e', he, hi⟩ := hst
    have HR := Lib.hid (ready_any o a' e' s w1 hi)
    have hz : (e' == 0) = false := by rw [beq_eq_false_iff_ne]; exact he
    have HP : Hid (IntPost o most s (some a) w (.returned (.int .i64 0)) w1) := ⟨hk, by rw [rd_none hp]; rfl, by rw [rd_none hp]; exact ⟨_, _, he, hi⟩⟩
    clear hr hp he hi hk
    go_wp2_with fail
    refine HR.out.mono ?_
    rintro r w1 ⟨rfl, rfl⟩
    go_wp2
    go_ret
    exact HP.out
  | some xn =>
    obtain ⟨x, n⟩ := xn
    have hbd := rvar_bd hr
    rw [rd_some hr] at hst ⊢
    obtain ⟨han, hi⟩ := hst
    have HR := Lib.hid (ready_any o _ 0 s w1 hi)
    by_cases hx : x ≤ most
    · have hp : rint most (s.data.toList.drop a) = some (x, n) := by unfold rint; rw [hr]; exact if_pos hx
      have HP : Hid (IntPost o most s (some a) w (.returned (.int .i64 x)) w1) := ⟨hk, by rw [rd_some hp], by rw [rd_some hp]; exact ⟨han, hi⟩⟩
      clear hr hp hi hk
      go_wp2_with fail
      refine HR.out.mono ?_
      rintro r w1 ⟨rfl, rfl⟩
      go_wp2
      go_ret
      exact HP.out
    · have hp : rint most (s.data.toList.drop a) = none := by unfold rint; rw [hr]; exact if_neg hx
      have HI := Lib.hid hi
      have HK := Lib.hid hk
      have HP := Lib.hid hp
      clear hr hp hi hk
      go_wp2_with fail
      refine HR.out.mono ?_
      rintro r w1 ⟨rfl, rfl⟩
      go_wp2_with fail
      refine (stand_any o _ 0 _ _ s _ HI.out).mono ?_
      rintro r w2 ⟨rfl, hI, hK⟩
      have HQ : Hid (IntPost o most s (some a) w (.returned (.int .i64 0)) w2) := ⟨HK.out.trans hK, by rw [rd_none HP.out]; rfl, by rw [rd_none HP.out]; exact ⟨_, _, by omega, hI⟩⟩
      clear hI hK
      go_wp2
      go_ret
      exact HQ.out

theorem int_st (o most : Nat) (s : ByteArray) (st : Option Nat) (w : World) (h : St w o s st) (hs : s.size ≤ 140737488351232) (hm : most ≤ 4611686018427387904) :
    Calls Try.prog 31 #[.pointer (some ⟨o, 0, none⟩), .int .i64 most] w (IntPost o most s st w) := by
  cases st with
  | none =>
    refine (int_dead o most s w h hs).mono ?_
    rintro e' w' ⟨rfl, rfl⟩
    exact ⟨KeepsBut.refl _ _, rfl, h⟩
  | some a => exact int_live o most a s w h.2 h.1 hs hm
end Go.Proofs.Ytmkcphelmgkipaa

namespace Go.Proofs.Ytmkcphelmgkipaa
open Go.RowKit
attribute [local go_sem ↓] Go.wp_at_zero Go.wp_at_succ

def TextPost (o most : Nat) (s : ByteArray) (st : Option Nat) (w : World) (e' : Ending) (w' : World) : Prop :=
  KeepsBut (fun k => k = o) w w' ∧ e' = .returned (.string (str (rd [] (rtext most) s.data.toList st).1)) ∧ St w' o s (rd [] (rtext most) s.data.toList st).2

/-- The last part of Text, behind what was taken: the reader may go back. -/
theorem St.keeps {w w' : World} {o : Nat} {s : ByteArray} {st : Option Nat} (h : St w o s st) (hw : w'.heap[o]? = w.heap[o]?) : St w' o s st := by
  cases st with
  | none => obtain ⟨a, e, he, hi⟩ := h; exact ⟨a, e, he, hw.trans hi⟩
  | some a => exact ⟨h.1, hw.trans h.2⟩

set_option maxHeartbeats 1000000 in
set_option maxRecDepth 100000 in
theorem text_st (o most : Nat) (s : ByteArray) (st : Option Nat) (w : World) (h : St w o s st) (hs : s.size ≤ 140737488351232) (hm : most ≤ 4611686018427387904) :
    Calls Try.prog 29 #[.pointer (some ⟨o, 0, none⟩), .int .i64 most] w (TextPost o most s st w) := by
  obtain ⟨a0, e0, hi0, ha0⟩ : ∃ a e, InAt w o a e s ∧ ∀ a', st = some a' → a = (a' : Int) := by
    cases st with
    | none => obtain ⟨a, e, _, hi⟩ := h; exact ⟨a, e, hi, fun _ e => by cases e⟩
    | some a => exact ⟨_, _, h.2, fun _ e => by cases e; rfl⟩
  have HA := Lib.hid (at_any o a0 e0 s w hi0)
  have HV := Lib.hid (int_st o most s st w h hs hm)
  clear hi0
  go_enter Try.func29, Try.ntmps29
  go_wp2_with fail
  refine HA.out.mono ?_
  rintro r w ⟨rfl, rfl⟩
  go_wp2_with fail
  refine HV.out.mono ?_
  rintro r w1 ⟨hk, rfl, hst⟩
  -- what the number came to
  cases hst1 : (rd 0 (rint most) s.data.toList st).2 with
  | none =>
    have hz : (rd 0 (rint most) s.data.toList st).1 = 0 := by
      cases st with
      | none => rfl
      | some a =>
        cases hr : rint most (s.data.toList.drop a) with
        | none => rw [rd_none hr]
        | some xn => obtain ⟨x, n⟩ := xn; rw [rd_some hr] at hst1; cases hst1
    have hp : rd [] (rtext most) s.data.toList st = ([], none) := by
      cases st with
      | none => rfl
      | some a =>
        cases hr : rint most (s.data.toList.drop a) with
        | none => exact rd_none (by unfold rtext; rw [hr])
        | some xn => obtain ⟨x, n⟩ := xn; rw [rd_some hr] at hst1; cases hst1
    rw [hst1] at hst
    rw [hz]
    obtain ⟨a1, e1, he1, hi1⟩ := hst
    have HT := Lib.hid (take_dead o a1 e1 (0 : Nat) s w1 hi1 he1)
    have hc0 := hi1.c0
    have hc1 := hi1.c1
    have hne : (e1 != 0) = true := by rw [bne_iff_ne]; exact he1
    have HP := Lib.hid hp
    have HK := Lib.hid hk
    have HI := Lib.hid hi1
    have HE := Lib.hid he1
    clear hz hp hst1 hk hi1 he1 HV h
    go_wp2_with fail
    refine HT.out.mono ?_
    rintro r w1 ⟨rfl, rfl⟩
    by_cases hlt : a0 < a1
    · go_wp2
      go_region_with (go_at_call 58; refine (stand_any o a1 e1 _ _ s _ ?_).mono ?_; (exact HI.out); rintro r w2 ⟨rfl, hI, hK⟩)
      all_goals
        have HQ : Hid (TextPost o most s st w (.returned (.string (str []))) w2) := ⟨(HK.out.trans (keeps_drewN _ w1 1)).trans hK, by rw [HP.out], by rw [HP.out]; exact ⟨_, _, HE.out, hI⟩⟩
        clear hI hK
        go_wp2
        go_ret
        exact HQ.out
    · go_wp2
      go_ret
      exact ⟨HK.out, by rw [HP.out]; rfl, by rw [HP.out]; exact ⟨_, _, HE.out, HI.out⟩⟩
  | some b =>
    obtain ⟨a, x, n, rfl, hr, rfl⟩ : ∃ a x n, st = some a ∧ rint most (s.data.toList.drop a) = some (x, n) ∧ b = a + n := by
      cases st with
      | none => cases hst1
      | some a =>
        cases hr : rint most (s.data.toList.drop a) with
        | none => rw [rd_none hr] at hst1; cases hst1
        | some xn => obtain ⟨x, n⟩ := xn; rw [rd_some hr] at hst1; cases hst1; exact ⟨a, x, n, rfl, hr, rfl⟩
    obtain rfl := ha0 a rfl
    rw [rd_some hr] at hst ⊢
    obtain ⟨hb, hi1⟩ := hst
    have hn1 : 1 ≤ n := by
      unfold rint at hr
      cases hv : rvar (s.data.toList.drop a) with
      | none => rw [hv] at hr; cases hr
      | some xn =>
        obtain ⟨x', n'⟩ := xn
        rw [hv] at hr
        have hbd := rvar_bd hv
        simp only at hr
        split at hr
        · cases hr; exact hbd.2.1
        · cases hr
    have hdl : (s.data.toList.drop a).length = s.size - a := by simp
    have HK := Lib.hid hk
    by_cases hx : x ≤ s.size - (a + n)
    · have hp : rd [] (rtext most) s.data.toList (some a) = ((s.data.toList.drop (a + n)).take x, some (a + (n + x))) := by
        refine rd_some ?_
        unfold rtext
        rw [hr]
        rw [← List.drop_drop]
        exact if_pos (by rw [hdl]; omega)
      have HT := Lib.hid (take_ok o (a + n) x s w1 hi1 hs (by omega))
      have HP := Lib.hid hp
      have hex : s.extract (a + n) (a + n + x) = str ((s.data.toList.drop (a + n)).take x) := by
        rw [ext_str]; congr 2; omega
      have HEX := Lib.hid hex
      clear hr hst1 hi1 hp hex HV h hk ha0 hdl
      go_wp2_with fail
      refine HT.out.mono ?_
      rintro r w2 ⟨rfl, hI, hK⟩
      rw [HEX.out]
      have h1 := hI.c1
      have HI := Lib.hid hI
      clear hI
      go_wp2
      go_ret
      refine ⟨HK.out.trans hK, by rw [HP.out]; rfl, ?_⟩
      rw [HP.out]
      exact ⟨by omega, by have := HI.out; rw [show a + (n + x) = a + n + x by omega]; exact this⟩
    · have hp : rd [] (rtext most) s.data.toList (some a) = ([], none) := by
        refine rd_none ?_
        unfold rtext
        rw [hr]
        exact if_neg (by rw [hdl]; omega)
      have HT := Lib.hid (take_short o (a + n) x s w1 hi1 hb hs (by omega))
      have HP := Lib.hid hp
      clear hr hst1 hi1 hp HV h hk ha0 hdl
      go_wp2_with fail
      refine HT.out.mono ?_
      rintro r w2 ⟨rfl, hI, hK⟩
      have h0 := hI.c0
      have h1 := hI.c1
      have hlt : (a : Int) < ((a + n : Nat) : Int) := by omega
      have HI := Lib.hid hI
      have HK2 := Lib.hid hK
      clear hI hK
      go_wp2
      go_region_with (go_at_call 58; refine (stand_any o ((a + n : Nat) : Int) 10 _ _ s _ ?_).mono ?_; (exact HI.out); rintro r w3 ⟨rfl, hI, hK⟩)
      all_goals
        have HQ : Hid (TextPost o most s (some a) w (.returned (.string (str []))) w3) := ⟨((HK.out.trans HK2.out).trans (keeps_drewN _ w2 1)).trans hK, by rw [HP.out], by rw [HP.out]; exact ⟨_, _, by omega, hI⟩⟩
        clear hI hK
        go_wp2
        go_ret
        exact HQ.out

def FixedPost (o k : Nat) (s : ByteArray) (st : Option Nat) (w : World) (e' : Ending) (w' : World) : Prop :=
  KeepsBut (fun k => k = o) w w' ∧ e' = .returned (.int .u64 ((rd 0 (rfixed k) s.data.toList st).1 : Nat)) ∧ St w' o s (rd 0 (rfixed k) s.data.toList st).2

set_option maxHeartbeats 1000000 in
set_option maxRecDepth 100000 in
theorem infixed_st (o k : Nat) (s : ByteArray) (st : Option Nat) (w : World) (h : St w o s st) (hs : s.size ≤ 140737488351232) (hk1 : 1 ≤ k) (hk8 : k ≤ 8) :
    Calls Try.prog 30 #[.pointer (some ⟨o, 0, none⟩), .int .i64 k] w (FixedPost o k s st w) := by
  have hnil : (str []).size ≤ 8 := by rw [str_size]; simp
  have HZ : Hid (beFrom 0 (str []).data.toList = 0) := rfl
  cases st with
  | none =>
    obtain ⟨a, e, he, hi⟩ := h
    have HR := Lib.hid (ready_any o a e s w hi)
    have HT := Lib.hid (take_dead o a e k s w hi he)
    have hz : (e == 0) = false := by rw [beq_eq_false_iff_ne]; exact he
    have HI := Lib.hid hi
    have HE := Lib.hid he
    clear hi he
    go_enter Try.func30, Try.ntmps30
    go_wp2_with fail
    refine HR.out.mono ?_
    rintro r w ⟨rfl, rfl⟩
    go_wp2_with fail
    refine HT.out.mono ?_
    rintro r w ⟨rfl, rfl⟩
    go_wp2_with fail
    refine (wnumber_any _ _ hnil).mono ?_
    rintro r w ⟨rfl, rfl⟩
    rw [HZ.out]
    go_wp2
    go_ret
    exact ⟨KeepsBut.refl _ _, rfl, _, _, HE.out, HI.out⟩
  | some a =>
    obtain ⟨ha, hi⟩ := h
    have HR := Lib.hid (ready_any o a 0 s w hi)
    have hdl : (s.data.toList.drop a).length = s.size - a := by simp
    by_cases hn : s.size - a < k
    · have hp : rd 0 (rfixed k) s.data.toList (some a) = (0, none) := rd_none (by unfold rfixed; rw [if_pos (by rw [hdl]; exact hn)])
      have HP := Lib.hid hp
      have HT := Lib.hid (take_short o a k s w hi ha hs hn)
      clear hi hp hdl
      go_enter Try.func30, Try.ntmps30
      go_wp2_with fail
      refine HR.out.mono ?_
      rintro r w ⟨rfl, rfl⟩
      go_wp2_with fail
      refine HT.out.mono ?_
      rintro r w1 ⟨rfl, hI, hK⟩
      have HQ : Hid (FixedPost o k s (some a) w (.returned (.int .u64 0)) w1) := ⟨hK, by rw [HP.out]; rfl, by rw [HP.out]; exact ⟨_, _, by omega, hI⟩⟩
      clear hI hK
      go_wp2_with fail
      refine (wnumber_any _ _ hnil).mono ?_
      rintro r w1 ⟨rfl, rfl⟩
      rw [HZ.out]
      go_wp2
      go_ret
      exact HQ.out
    · have hp : rd 0 (rfixed k) s.data.toList (some a) = (beFrom 0 ((s.data.toList.drop a).take k), some (a + k)) := rd_some (by unfold rfixed; rw [if_neg (by rw [hdl]; exact hn)])
      have HP := Lib.hid hp
      have HT := Lib.hid (take_ok o a k s w hi hs (by omega))
      have hes : (s.extract a (a + k)).size ≤ 8 := by simp; omega
      have hex : (s.extract a (a + k)).data.toList = (s.data.toList.drop a).take k := by rw [Lib.extract_data]; congr 1; omega
      have HEX := Lib.hid hex
      clear hi hp hdl hex
      go_enter Try.func30, Try.ntmps30
      go_wp2_with fail
      refine HR.out.mono ?_
      rintro r w ⟨rfl, rfl⟩
      go_wp2_with fail
      refine HT.out.mono ?_
      rintro r w1 ⟨rfl, hI, hK⟩
      have HQ : Hid (FixedPost o k s (some a) w (.returned (.int .u64 (beFrom 0 ((s.data.toList.drop a).take k) : Nat))) w1) := ⟨hK, by rw [HP.out], by rw [HP.out]; exact ⟨by omega, hI⟩⟩
      clear hI hK
      go_wp2_with fail
      refine (wnumber_any _ _ hes).mono ?_
      rintro r w1 ⟨rfl, rfl⟩
      rw [HEX.out]
      go_wp2
      go_ret
      exact HQ.out

set_option maxHeartbeats 1000000 in
set_option maxRecDepth 100000 in
theorem done_st (o : Nat) (s : ByteArray) (st : Option Nat) (w : World) (h : St w o s st) (hs : s.size ≤ 140737488351232) :
    Calls Try.prog 32 #[.pointer (some ⟨o, 0, none⟩)] w fun e' w' => (∃ n, w' = w.drewN n) ∧ ∃ c : Int, e' = .returned (.int .i64 c) ∧ (c = 0 ↔ st = some s.size) := by
  cases st with
  | none =>
    obtain ⟨a, e, he, hi⟩ := h
    have HE := Lib.hid (err_any o a e s w hi)
    have hz : (e != 0) = true := by rw [bne_iff_ne]; exact he
    have HN := Lib.hid he
    clear hi he
    go_enter Try.func32, Try.ntmps32
    go_wp2_with fail
    refine HE.out.mono ?_
    rintro r w ⟨rfl, rfl⟩
    go_wp2
    go_ret
    exact ⟨⟨0, rfl⟩, e, rfl, by simp [HN.out]⟩
  | some a =>
    obtain ⟨ha, hi⟩ := h
    have HE := Lib.hid (err_any o a 0 s w hi)
    have HL := Lib.hid (left_any o a 0 s w hi ha hs)
    clear hi
    by_cases hlt : a < s.size
    · have hd : decide ((0 : Int) < (s.size : Int) - a) = true := by simp; omega
      go_enter Try.func32, Try.ntmps32
      go_wp2_with fail
      refine HE.out.mono ?_
      rintro r w ⟨rfl, rfl⟩
      go_wp2_with fail
      refine HL.out.mono ?_
      rintro r w' ⟨rfl, n, rfl⟩
      go_wp2
      go_ret
      exact ⟨⟨n, rfl⟩, 11, rfl, by simp; omega⟩
    · obtain rfl : a = s.size := by omega
      go_enter Try.func32, Try.ntmps32
      go_wp2_with fail
      refine HE.out.mono ?_
      rintro r w ⟨rfl, rfl⟩
      go_wp2_with fail
      refine HL.out.mono ?_
      rintro r w' ⟨rfl, n, rfl⟩
      rw [Int.sub_self]
      go_wp2
      go_ret
      exact ⟨⟨n, rfl⟩, 0, rfl, by simp⟩

set_option maxHeartbeats 1000000 in
set_option maxRecDepth 100000 in
theorem read_any (s : ByteArray) (w : World) :
    Calls Try.prog 28 #[.string s] w fun e' w' => e' = .returned (.pointer (some ⟨w.heap.size, 0, none⟩)) ∧ w' = w.alloc (.cells #[.int .i64 0, .int .i64 0, .string s] 103) := by
  go_enter Try.func28, Try.ntmps28
  go_wp2
  go_ret
  exact ⟨rfl, rfl⟩
end Go.Proofs.Ytmkcphelmgkipaa
