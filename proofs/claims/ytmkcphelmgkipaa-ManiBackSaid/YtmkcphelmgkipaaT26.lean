import Derived.Test.YtmkcphelmgkipaaT25
set_option linter.unusedVariables false
set_option linter.unusedSimpArgs false
namespace Go.Proofs.Ytmkcphelmgkipaa
open Go.RowKit
attribute [local go_sem ↓] Go.wp_at_zero Go.wp_at_succ

theorem opened_le (l : List UInt8) : (opened l).1.length ≤ l.length := by
  unfold opened
  repeat' split
  all_goals simp

theorem prefix_four {A : List UInt8} (h : Lib.hasPrefix A [77, 65, 78, 50] = true) : 4 ≤ A.length ∧ A = [77, 65, 78, 50] ++ A.drop 4 := by
  have : [77, 65, 78, 50] <+: A := by simpa [Lib.hasPrefix] using h
  obtain ⟨t, rfl⟩ := this
  simp

theorem decode_any (s : ByteArray) (w : World) (hs : s.size ≤ 140737488351232) : Calls Try.prog 8 #[.string s] w (ManPost (dman s.data.toList) w) := by
  cases ho : opened s.data.toList with
  | mk A c =>
    unfold dman
    rw [ho]
    by_cases hc : c = 0
    · subst hc
      simp only [ne_eq, not_true_eq_false, if_false]
      by_cases hp : Lib.hasPrefix A [77, 65, 78, 50] = true
      · rw [if_neg (by rw [hp]; simp)]
        have hl := opened_le s.data.toList
        rw [ho] at hl
        exact decode_main s w hs ho hp (prefix_four hp).1 (by simpa using hl) rfl
      · rw [if_pos (by simpa using hp)]
        exact decode_kind s w hs ho (by simpa using hp)
    · rw [if_pos hc]
      exact decode_bad s w hs ho hc

theorem hd_step : ∀ k : Fin 9, 1 ≤ k.val → hd (k.val + 1) = hd k.val + 256 / 2 ^ k.val := by decide +kernel
theorem hd_le (k : Nat) : hd k ≤ 256 := Nat.sub_le _ _

set_option maxHeartbeats 1000000 in
set_option maxRecDepth 100000 in
theorem rhead_any (n : Nat) (h1 : 1 ≤ n) (h9 : n ≤ 9) (w : World) :
    Calls Try.prog 85 #[.int .i64 n] w fun e w' => e = .returned (.int .i64 (hd n : Nat)) ∧ w = w' := by
  go_enter Try.func85, Try.ntmps85
  go_wp2
  go_loopw [3, 4, 5] (fun b u i wr => ∃ k : Nat, i = .int .i64 k ∧ b = .int .i64 (hd k : Nat) ∧ u = .int .i64 (256 / 2 ^ k : Nat) ∧ 1 ≤ k ∧ k ≤ n ∧ wr = w) (fun _ _ i _ => n - (intOf i).toNat)
  case atStart => exact ⟨1, rfl, rfl, rfl, by omega, h1, rfl⟩
  case round =>
    obtain ⟨k, rfl, rfl, rfl, hk1, hkn, rfl⟩ := hrel
    have hb := hd_le k
    have hu : 256 / 2 ^ k ≤ 256 := Nat.div_le_self _ _
    by_cases hlt : k < n
    · have hs := hd_step ⟨k, by omega⟩ hk1
      have hs2 : 256 / 2 ^ (k + 1) = 256 / 2 ^ k / 2 := by rw [Nat.pow_succ, Nat.div_div_eq_div_mul]
      simp only at hs
      have HS := Lib.hid hs
      have HS2 := Lib.hid hs2
      clear hs hs2
      generalize hq : 256 / 2 ^ k = q at *
      generalize hr : hd k = r at *
      clear hq hr
      go_wp2
      go_roundw
      case rel =>
        refine ⟨k + 1, by go_num, ?_, ?_, by omega, by omega, trivial⟩
        · rw [HS.out]; go_num
        · rw [HS2.out]; go_num
      case measure => simp [intOf]; omega
    · obtain rfl : k = n := by omega
      go_wp2
      go_ret
      exact ⟨rfl, rfl⟩

theorem vsz_of (x k : Nat) (h1 : 1 ≤ k) (h9 : k ≤ 9) (hl : k = 1 ∨ 128 ^ (k - 1) ≤ x) (hh : k = 9 ∨ x < 128 ^ k) : vsz x = k := by
  have : k = 1 ∨ k = 2 ∨ k = 3 ∨ k = 4 ∨ k = 5 ∨ k = 6 ∨ k = 7 ∨ k = 8 ∨ k = 9 := by omega
  rcases this with h | h | h | h | h | h | h | h | h <;> subst h <;> simp only [Nat.reduceSub, Nat.reducePow] at hl hh <;> unfold vsz <;> (repeat' split) <;> omega

set_option maxHeartbeats 1000000 in
set_option maxRecDepth 100000 in
theorem rsize_any (x : Nat) (hx : x < 18446744073709551616) (w : World) :
    Calls Try.prog 86 #[.int .u64 x] w fun e w' => e = .returned (.int .i64 (vsz x : Nat)) ∧ w = w' := by
  go_enter Try.func86, Try.ntmps86
  go_wp2
  go_loopw [3, 4] (fun i m wr => ∃ k : Nat, i = .int .i64 k ∧ m = .int .u64 (128 ^ min k 8 : Nat) ∧ 1 ≤ k ∧ k ≤ 9 ∧ (k = 1 ∨ 128 ^ (k - 1) ≤ x) ∧ wr = w) (fun i _ _ => 9 - (intOf i).toNat)
  case atStart => exact ⟨1, rfl, rfl, by omega, by omega, .inl rfl, rfl⟩
  case round =>
    obtain ⟨k, rfl, rfl, hk1, hk9, hl, rfl⟩ := hrel
    have hm8 : 128 ^ min k 8 ≤ 128 ^ 8 := Nat.pow_le_pow_right (by omega) (by omega)
    have HL := Lib.hid hl
    clear hl
    by_cases hlt : k < 9
    · have hmk : min k 8 = k := by omega
      rw [hmk] at hm8 ⊢
      have HP : Hid (k < 8 → 128 ^ (k + 1) = 128 * 128 ^ k ∧ 128 ^ k ≤ 72057594037927936 / 128) := fun h => ⟨by rw [Nat.pow_succ, Nat.mul_comm], by
        have : 128 ^ k ≤ 128 ^ 7 := Nat.pow_le_pow_right (by omega) (by omega)
        omega⟩
      generalize hq : 128 ^ k = q at *
      have HQ := Lib.hid hq
      clear hq
      by_cases hge : q ≤ x
      · by_cases h8 : k < 8
        · obtain ⟨hp1, hp2⟩ := HP.out h8
          have HP1 := Lib.hid hp1
          clear hp1
          go_wp2
          go_roundw
          case rel =>
            refine ⟨k + 1, by go_num, ?_, by omega, by omega, .inr (by rw [Nat.add_sub_cancel, HQ.out]; exact hge), trivial⟩
            rw [show min (k + 1) 8 = k + 1 by omega, HP1.out]; go_num
          case measure => simp [intOf]; omega
        · obtain rfl : k = 8 := by omega
          go_wp2
          go_roundw
          case rel =>
            refine ⟨9, by go_num, ?_, by omega, by omega, .inr (by rw [HQ.out]; exact hge), trivial⟩
            rw [show min 9 8 = 8 by omega, HQ.out]
          case measure => simp [intOf]
      · have HV := Lib.hid (vsz_of x k hk1 hk9 HL.out (.inr (by rw [HQ.out]; omega)))
        go_wp2
        go_ret
        exact ⟨by rw [HV.out]; rfl, rfl⟩
    · obtain rfl : k = 9 := by omega
      have HV := Lib.hid (vsz_of x 9 hk1 hk9 HL.out (.inl rfl))
      go_wp2
      go_ret
      exact ⟨by rw [HV.out]; rfl, rfl⟩
end Go.Proofs.Ytmkcphelmgkipaa
