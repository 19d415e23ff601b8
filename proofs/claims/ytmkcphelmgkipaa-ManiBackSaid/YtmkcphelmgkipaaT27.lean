import Derived.Test.YtmkcphelmgkipaaT26
import Derived.BigQuiet
set_option linter.unusedVariables false
set_option linter.unusedSimpArgs false
namespace Go.Proofs.Ytmkcphelmgkipaa
open Go.RowKit
attribute [local go_sem ↓] Go.wp_at_zero Go.wp_at_succ

theorem few_lt (c : Nat) (hc : c < 256) (l : List UInt8) (hl : l.length ≤ lead c - 1) : beFrom (if lead c = 9 then 0 else c - hd (lead c)) l < 18446744073709551616 := by
  have hlt := beFrom_lt l
  rw [beFrom_eq]
  have hb := lead_bd c
  by_cases h9 : lead c = 9
  · rw [if_pos h9, Nat.zero_mul, Nat.zero_add]
    have : 256 ^ l.length ≤ 256 ^ 8 := Nat.pow_le_pow_right (by omega) (by omega)
    simp only [Nat.reducePow] at this
    omega
  · rw [if_neg h9]
    have hlh := lead_hd _ hc h9
    have e256 : (256 : Nat) ^ l.length = 2 ^ (8 * l.length) := by rw [Nat.pow_mul]
    have h1 : (c - hd (lead c)) * 256 ^ l.length + 256 ^ l.length ≤ 2 ^ (8 - lead c) * 256 ^ l.length := by
      rw [← Nat.succ_mul]; exact Nat.mul_le_mul_right _ hlh.2
    have h2 : 2 ^ (8 - lead c) * 256 ^ l.length ≤ 2 ^ 56 := by
      rw [e256, ← Nat.pow_add]; exact Nat.pow_le_pow_right (by omega) (by omega)
    simp only [Nat.reducePow] at h2
    omega

theorem lead_is : ∀ c : Fin 256, ∀ k : Fin 10, 1 ≤ k.val → (k.val = 1 ∨ hd k.val ≤ c.val) → (k.val = 9 ∨ c.val < hd (k.val + 1)) → lead c.val = k.val := by decide +kernel
theorem lead_hd' : ∀ c : Fin 256, hd (lead c.val) ≤ c.val := by decide +kernel

theorem rhead_int (x : Int) (n : Nat) (hx : x = n) (h1 : 1 ≤ n) (h9 : n ≤ 9) (w : World) :
    Calls Try.prog 85 #[.int .i64 x] w fun e w' => e = .returned (.int .i64 (hd n : Nat)) ∧ w = w' := by
  subst hx; exact rhead_any n h1 h9 w

theorem rhead_q (x : Int) (n : Nat) (hx : x = n) (h1 : 1 ≤ n) (h9 : n ≤ 9) (w : World) :
    Calls Try.prog 85 #[.int .i64 x] w fun e w' => e = .returned (.int .i64 (hd n : Nat)) ∧ w' = w :=
  (rhead_int x n hx h1 h9 w).mono (fun e w' h => ⟨h.1, h.2.symm⟩)

def Drew (w w' : World) : Prop := ∃ m, w' = w.drewN m
theorem Drew.refl (w : World) : Drew w w := ⟨0, rfl⟩
theorem Drew.more {w w' : World} (h : Drew w w') (n : Nat) : Drew w (w'.drewN n) := by
  obtain ⟨m, rfl⟩ := h
  exact ⟨m + n, World.drewN_drewN _ _ _⟩
theorem Drew.one {w w' : World} (h : Drew w w') : Drew w w'.drew := h.more 1
theorem Drew.keeps {w w' : World} (h : Drew w w') (X : Nat → Prop) : KeepsBut X w w' := by
  obtain ⟨m, rfl⟩ := h
  exact keeps_drewN X w m

def FewPost (s : ByteArray) (w : World) (e : Ending) (w' : World) : Prop :=
  Drew w w' ∧ ∃ x n : Nat, ∃ c : Int, e = .returned (.tuple #[.int .u64 x, .int .i64 n, .int .i64 c]) ∧
    ((rvar s.data.toList = some (x, n) ∧ c = 0) ∨ (rvar s.data.toList = none ∧ x = 0 ∧ n = 0 ∧ c ≠ 0))

theorem drop1_snoc (s : ByteArray) (j : Nat) (h : j + 1 < s.size) : (s.data.toList.drop 1).take (j + 1) = (s.data.toList.drop 1).take j ++ [s[j + 1]] := by
  rw [List.take_add_one]
  congr 1
  rw [List.getElem?_drop, Nat.add_comm 1 j, List.getElem?_eq_getElem (by simpa using h)]
  rfl

theorem drop1_at (s : ByteArray) (j : Nat) (h1 : 1 ≤ j) (h : j < s.size) : (s.data.toList.drop 1).take j = (s.data.toList.drop 1).take (j - 1) ++ [s[j]] := by
  obtain ⟨i, rfl⟩ : ∃ i, j = i + 1 := ⟨j - 1, by omega⟩
  exact drop1_snoc s i h

set_option maxHeartbeats 1000000 in
set_option maxRecDepth 100000 in
theorem few_any (s : ByteArray) (w : World) (hs : s.size ≤ 140737488351232) : Calls Try.prog 71 #[.string s] w (FewPost s w) := by
  by_cases h0 : s.size = 0
  · have hse : s = ⟨#[]⟩ := by
      have : s.data.toList = [] := List.eq_nil_of_length_eq_zero (by simpa using h0)
      rw [← str_of s, this]; rfl
    subst hse
    clear h0 hs
    go_enter Try.func71, Try.ntmps71
    go_wp2
    go_ret3
    exact ⟨Drew.refl _, 0, 0, 10, rfl, .inr ⟨rfl, rfl, rfl, by decide⟩⟩
  · have hpos : 0 < s.size := by omega
    have hne : s.toList.isEmpty = false := by
      rw [ByteArray.toList_eq, List.isEmpty_eq_false_iff]
      intro e
      have : s.data.toList.length = s.size := by simp
      rw [e] at this
      simp at this
      omega
    obtain ⟨c, hc⟩ : ∃ c, c = s[0].toNat := ⟨_, rfl⟩
    have hcb : c < 256 := by rw [hc]; exact UInt8.toNat_lt s[0]
    have hra := rvar_at s 0 hpos
    rw [List.drop_zero, Nat.sub_zero, ← hc] at hra
    have hsaid : ∀ n, said s 0 n = beFrom (if n = 9 then 0 else c - hd n) ((s.data.toList.drop 1).take (n - 1)) := fun n => by
      unfold said
      rw [Nat.zero_add, show (s.data.toList.getD 0 0) = s[0] by
        rw [List.getD_eq_getElem?_getD, List.getElem?_eq_getElem (by simpa using hpos)]; rfl, ← hc]
    have hlead := lead_bd c
    have HL : Hid (∀ k, 1 ≤ k → k ≤ 9 → (k = 1 ∨ hd k ≤ c) → (k = 9 ∨ c < hd (k + 1)) → lead c = k) := fun k a b => lead_is ⟨c, hcb⟩ ⟨k, by omega⟩ a
    have HRA := Lib.hid hra
    have HSAID := Lib.hid hsaid
    have HC := Lib.hid hc
    clear hra hsaid h0
    go_enter Try.func71, Try.ntmps71
    go_wp2
    go_loopw [5] (fun i wr => ∃ k : Nat, i = .int .i64 k ∧ 1 ≤ k ∧ k ≤ 9 ∧ Hid (k = 1 ∨ hd k ≤ c) ∧ Drew w wr) (fun i _ => 9 - (intOf i).toNat)
    case atStart => exact ⟨1, rfl, by omega, by omega, .inl rfl, Drew.refl w⟩
    case round =>
      obtain ⟨k, rfl, hk1, hk9, hkh, hdr⟩ := hrel
      have hw0 : IntKind.i64.wrap ((s[0].toNat : Nat) : Int) = ((s[0].toNat : Nat) : Int) := by rw [IntWalk.i64_in _ (by omega)]
      have hways : (k < 9 ∧ hd (k + 1) ≤ c) ∨ (k < 9 ∧ c < hd (k + 1)) ∨ k = 9 := by omega
      rcases hways with ⟨hlt, hge⟩ | ⟨hlt, hge⟩ | hk
      · have hb1 : decide ((k : Int) < 9) = true := by simp; omega
        have HW1 : Hid (IntKind.i64.wrap ((k : Int) + 1) = ((k + 1 : Nat) : Int)) := by show _ = _; rw [IntWalk.i64_in _ (by omega)]; omega
        have hd2 : decide (((hd (k + 1) : Nat) : Int) ≤ ((s[0].toNat : Nat) : Int)) = true := by rw [← hc]; simp; omega
        have hd3 : ((hd (k + 1) : Nat) : Int) ≤ IntKind.i64.wrap ((s[0].toNat : Nat) : Int) := by rw [hw0]; omega
        go_wp2_with fail
        go_region_with (go_at_call 85; refine (rhead_int _ (k + 1) (by first | exact HW1.out | omega) (by omega) (by omega) _).mono ?_; rintro e w' ⟨rfl, rfl⟩)
        all_goals
          go_wp2
          go_roundw
          case rel => exact ⟨k + 1, by go_num, by omega, by omega, .inr hge, hdr.one⟩
          case measure => simp [intOf]; omega
      · have hk : lead c = k := HL.out k hk1 hk9 hkh.out (.inr hge)
        have hb1 : decide ((k : Int) < 9) = true := by simp; omega
        have HW1 : Hid (IntKind.i64.wrap ((k : Int) + 1) = ((k + 1 : Nat) : Int)) := by show _ = _; rw [IntWalk.i64_in _ (by omega)]; omega
        have hd2 : decide (((hd (k + 1) : Nat) : Int) ≤ ((s[0].toNat : Nat) : Int)) = false := by rw [← hc]; simp; omega
        have hd3 : IntKind.i64.wrap ((s[0].toNat : Nat) : Int) < ((hd (k + 1) : Nat) : Int) := by rw [hw0]; omega
        have h9 : k ≠ 9 := by omega
        have h9b : ((k : Int) == 9) = false := by rw [beq_eq_false_iff_ne]; omega
        have hd4 : decide (hd (k + 1) ≤ s[0].toNat) = false := by rw [← hc]; simp; omega
        go_wp2_with fail
        go_quiet (first | (go_at_call 85; refine Calls.quiet_of_same (rhead_q _ (k + 1) (by first | exact HW1.out | omega) (by omega) (by omega) _)))
        clear hb1 HW1 hd2 hd3
        try rw [hd4]
        clear hd4
        replace hdr := hdr.more nq
        generalize wr.drewN nq = wr at *
        by_cases hsz : s.size < k
        · have hn := HRA.out
          rw [hk, if_pos hsz] at hn
          have HN := Lib.hid hn
          clear hn
          go_wp2
          go_ret3
          exact ⟨hdr, 0, 0, 10, rfl, .inr ⟨HN.out, rfl, rfl, by decide⟩⟩
        · have hn := HRA.out
          rw [hk, if_neg hsz] at hn
          have HN := Lib.hid hn
          have hle := lead_hd' ⟨c, hcb⟩
          simp only [hk] at hle
          have hle2 : ((hd k : Nat) : Int) ≤ ((s[0].toNat : Nat) : Int) := by rw [← hc]; omega
          have hsub : IntKind.i64.wrap (((s[0].toNat : Nat) : Int) - ((hd k : Nat) : Int)) = ((c - hd k : Nat) : Int) := by rw [IntWalk.i64_in _ (by omega)]; omega
          have hub : IntKind.u64.wrap ((c - hd k : Nat) : Int) = ((c - hd k : Nat) : Int) := by rw [wrap_u64_eq]; omega
          have HF : Hid (∀ j, j ≤ k - 1 → beFrom (c - hd k) ((s.data.toList.drop 1).take j) < 18446744073709551616) := fun j hj => by
            have := few_lt c hcb ((s.data.toList.drop 1).take j) (by rw [hk, List.length_take]; omega)
            rw [hk, if_neg h9] at this
            exact this
          have HV : Hid (said s 0 k = beFrom (c - hd k) ((s.data.toList.drop 1).take (k - 1))) := by
            have := HSAID.out k
            rw [if_neg h9] at this
            exact this
          clear hn
          go_wp2_with fail
          go_quiet (first | (go_at_call 85; refine Calls.quiet_of_same (rhead_q _ k (by omega) (by omega) (by omega) _)))
          clear hsub hub hw0 hle
          go_wp2
          clear hle2
          go_loopw [6, 7] (fun x i wr => ∃ j : Nat, i = .int .i64 j ∧ 1 ≤ j ∧ j ≤ k ∧ x = .int .u64 (beFrom (c - hd k) ((s.data.toList.drop 1).take (j - 1)) : Nat) ∧ Drew w wr) (fun _ i _ => k - (intOf i).toNat)
          case atStart => exact ⟨1, rfl, by omega, by omega, by simp [beFrom, hc], hdr.more nq⟩
          case round =>
            clear hdr
            obtain ⟨j, rfl, hj1, hjk, rfl, hdr⟩ := hrel
            by_cases hj : j < k
            · have hb := UInt8.toNat_lt s[j]
              have h1 := HF.out (j - 1) (by omega)
              have h2 := HF.out j (by omega)
              have hT := drop1_at s j hj1 (by omega)
              have hS := beFrom_snoc (c - hd k) ((s.data.toList.drop 1).take (j - 1)) s[j]
              rw [← hT] at hS
              rw [hS] at h2
              have HS := Lib.hid hS
              generalize hy : beFrom (c - hd k) ((s.data.toList.drop 1).take (j - 1)) = y at *
              clear hS hT hy
              go_wp2
              go_roundw
              case rel =>
                refine ⟨j + 1, by go_num, by omega, by omega, ?_, hdr⟩
                rw [Nat.add_sub_cancel, HS.out]
                go_num
              case measure => simp [intOf]; omega
            · obtain rfl : j = k := by omega
              have hl := HF.out (j - 1) (by omega)
              rw [HV.out] at HN
              generalize hy : beFrom (c - hd j) ((s.data.toList.drop 1).take (j - 1)) = y at *
              clear hy
              by_cases hv : vsz y = j
              · have hvb : ((vsz y : Int) != (j : Int)) = false := by rw [hv]; simp
                have HN2 : Hid (rvar s.data.toList = some (y, j)) := by have := HN.out; rwa [if_pos hv] at this
                clear hv
                go_wp2_with fail
                refine (rsize_any y hl _).mono ?_
                rintro e w' ⟨rfl, rfl⟩
                go_wp2
                go_ret3
                exact ⟨hdr, y, j, 0, rfl, .inl ⟨HN2.out, rfl⟩⟩
              · have hvb : ((vsz y : Int) != (j : Int)) = true := by rw [bne_iff_ne]; omega
                have HN2 : Hid (rvar s.data.toList = none) := by have := HN.out; rwa [if_neg hv] at this
                clear hv
                go_wp2_with fail
                refine (rsize_any y hl _).mono ?_
                rintro e w' ⟨rfl, rfl⟩
                go_wp2
                go_ret3
                exact ⟨hdr, 0, 0, 12, rfl, .inr ⟨HN2.out, rfl, rfl, by decide⟩⟩
      · subst hk
        have hk : lead c = 9 := HL.out 9 hk1 hk9 hkh.out (.inl rfl)
        rw [show (((9 : Nat) : Int)) = 9 from rfl]
        have HLK := Lib.hid hk
        go_wp2_with fail
        go_quiet (fail)
        replace hdr := hdr.more nq
        generalize wr.drewN nq = wr at *
        by_cases hsz : s.size < 9
        · have hn := HRA.out
          rw [hk, if_pos hsz] at hn
          have HN := Lib.hid hn
          clear hn
          go_wp2
          go_ret3
          exact ⟨hdr, 0, 0, 10, rfl, .inr ⟨HN.out, rfl, rfl, by decide⟩⟩
        · have hn := HRA.out
          rw [hk, if_neg hsz] at hn
          have HN := Lib.hid hn
          have hle := lead_hd' ⟨c, hcb⟩
          simp only [hk] at hle
          have hle2 : ((hd 9 : Nat) : Int) ≤ ((s[0].toNat : Nat) : Int) := by rw [← hc]; omega
          have hsub : IntKind.i64.wrap (((s[0].toNat : Nat) : Int) - ((hd 9 : Nat) : Int)) = ((c - hd 9 : Nat) : Int) := by rw [IntWalk.i64_in _ (by omega)]; omega
          have hub : IntKind.u64.wrap ((c - hd 9 : Nat) : Int) = ((c - hd 9 : Nat) : Int) := by rw [wrap_u64_eq]; omega
          have HF : Hid (∀ j, j ≤ 8 → beFrom 0 ((s.data.toList.drop 1).take j) < 18446744073709551616) := fun j hj => by
            have := few_lt c hcb ((s.data.toList.drop 1).take j) (by rw [hk, List.length_take]; omega)
            rw [hk, if_pos rfl] at this
            exact this
          have HV : Hid (said s 0 9 = beFrom 0 ((s.data.toList.drop 1).take (8))) := by
            have := HSAID.out 9
            rw [if_pos rfl] at this
            exact this
          clear hn
          go_wp2_with fail
          go_quiet (first | (go_at_call 85; refine Calls.quiet_of_same (rhead_q _ 9 (by omega) (by omega) (by omega) _)))
          clear hsub hub hw0 hle
          go_wp2
          clear hle2
          go_loopw [6, 7] (fun x i wr => ∃ j : Nat, i = .int .i64 j ∧ 1 ≤ j ∧ j ≤ 9 ∧ x = .int .u64 (beFrom 0 ((s.data.toList.drop 1).take (j - 1)) : Nat) ∧ Drew w wr) (fun _ i _ => 9 - (intOf i).toNat)
          case atStart => exact ⟨1, rfl, by omega, by omega, by simp [beFrom, hc], hdr.more nq⟩
          case round =>
            clear hdr
            obtain ⟨j, rfl, hj1, hjk, rfl, hdr⟩ := hrel
            by_cases hj : j < 9
            · have hb := UInt8.toNat_lt s[j]
              have h1 := HF.out (j - 1) (by omega)
              have h2 := HF.out j (by omega)
              have hT := drop1_at s j hj1 (by omega)
              have hS := beFrom_snoc 0 ((s.data.toList.drop 1).take (j - 1)) s[j]
              rw [← hT] at hS
              rw [hS] at h2
              have HS := Lib.hid hS
              generalize hy : beFrom 0 ((s.data.toList.drop 1).take (j - 1)) = y at *
              clear hS hT hy
              go_wp2
              go_roundw
              case rel =>
                refine ⟨j + 1, by go_num, by omega, by omega, ?_, hdr⟩
                rw [Nat.add_sub_cancel, HS.out]
                go_num
              case measure => simp [intOf]; omega
            · obtain rfl : j = 9 := by omega
              simp only [Nat.reduceSub] at *
              have hl := HF.out 8 (by omega)
              rw [HV.out] at HN
              generalize hy : beFrom 0 ((s.data.toList.drop 1).take 8) = y at *
              clear hy
              by_cases hv : vsz y = 9
              · have hvb : ((vsz y : Int) != 9) = false := by rw [hv]; simp
                have HN2 : Hid (rvar s.data.toList = some (y, 9)) := by have := HN.out; rwa [if_pos hv] at this
                clear hv
                go_wp2_with fail
                refine (rsize_any y hl _).mono ?_
                rintro e w' ⟨rfl, rfl⟩
                go_wp2
                go_ret3
                exact ⟨hdr, y, 9, 0, rfl, .inl ⟨HN2.out, rfl⟩⟩
              · have hvb : ((vsz y : Int) != 9) = true := by rw [bne_iff_ne]; omega
                have HN2 : Hid (rvar s.data.toList = none) := by have := HN.out; rwa [if_neg hv] at this
                clear hv
                go_wp2_with fail
                refine (rsize_any y hl _).mono ?_
                rintro e w' ⟨rfl, rfl⟩
                go_wp2
                go_ret3
                exact ⟨hdr, 0, 0, 12, rfl, .inr ⟨HN2.out, rfl, rfl, by decide⟩⟩
end Go.Proofs.Ytmkcphelmgkipaa
