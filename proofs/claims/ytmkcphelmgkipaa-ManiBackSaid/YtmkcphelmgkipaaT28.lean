import Derived.Test.YtmkcphelmgkipaaT27
set_option linter.unusedVariables false
set_option linter.unusedSimpArgs false
namespace Go.Proofs.Ytmkcphelmgkipaa
open Go.RowKit
attribute [local go_sem ↓] Go.wp_at_zero Go.wp_at_succ

def RTextPost (s : ByteArray) (w : World) (e : Ending) (w' : World) : Prop :=
  Drew w w' ∧ ∃ (t : List UInt8) (n : Nat) (c : Int), e = .returned (.tuple #[.string (str t), .int .i64 n, .int .i64 c]) ∧
    ((rtext 1000 s.data.toList = some (t, n) ∧ c = 0) ∨ (rtext 1000 s.data.toList = none ∧ t = [] ∧ n = 0 ∧ c ≠ 0))

theorem str_nil : str [] = ⟨#[]⟩ := rfl

set_option maxHeartbeats 1000000 in
set_option maxRecDepth 100000 in
theorem rtext_any (s : ByteArray) (w : World) (hs : s.size ≤ 140737488351232) : Calls Try.prog 70 #[.string s, .int .i64 1000] w (RTextPost s w) := by
  have HF := Lib.hid (few_any s w hs)
  have hlen : s.data.toList.length = s.size := by simp
  go_enter Try.func70, Try.ntmps70
  go_wp2_with fail
  refine HF.out.mono ?_
  rintro e w1 ⟨hd, x, n, c, rfl, hxn⟩
  have HD := Lib.hid hd
  clear hd HF
  rcases hxn with ⟨hv, rfl⟩ | ⟨hv, rfl, rfl, hc⟩
  · obtain ⟨hx, hn1, hn⟩ := rvar_bd hv
    rw [hlen] at hn
    have HV := Lib.hid hv
    have HL := Lib.hid hlen
    clear hv hlen
    by_cases hm : x ≤ 1000
    · by_cases hr : x ≤ s.size - n
      · have hex : s.extract n (n + x) = str ((s.data.toList.drop n).take x) := by rw [ext_str]; congr 2; omega
        have HEX := Lib.hid hex
        have hsub : IntKind.i64.wrap ((s.size : Int) - n) = ((s.size - n : Nat) : Int) := by rw [IntWalk.i64_in _ (by omega)]; omega
        clear hex
        go_wp2
        go_ret3
        have hi : rint 1000 s.data.toList = some (x, n) := by unfold rint; rw [HV.out]; exact if_pos hm
        refine ⟨HD.out, (s.data.toList.drop n).take x, n + x, 0, ?_, .inl ⟨?_, rfl⟩⟩
        · rw [← HEX.out]; rfl
        · unfold rtext; rw [hi]; exact if_pos (by rw [HL.out]; exact hr)
      · go_wp2
        go_ret3
        have hi : rint 1000 s.data.toList = some (x, n) := by unfold rint; rw [HV.out]; exact if_pos hm
        exact ⟨HD.out, [], 0, 10, rfl, .inr ⟨by unfold rtext; rw [hi]; exact if_neg (by rw [HL.out]; exact hr), rfl, rfl, by decide⟩⟩
    · go_wp2
      go_ret3
      have hi : rint 1000 s.data.toList = none := by unfold rint; rw [HV.out]; exact if_neg hm
      exact ⟨HD.out, [], 0, 12, rfl, .inr ⟨by unfold rtext; rw [hi], rfl, rfl, by decide⟩⟩
  · have hcn : (c != 0) = true := by rw [bne_iff_ne]; exact hc
    have HV := Lib.hid hv
    have HC := Lib.hid hc
    clear hv hc
    go_wp2
    go_ret3
    have hi : rint 1000 s.data.toList = none := by unfold rint; rw [HV.out]
    exact ⟨HD.out, [], 0, c, rfl, .inr ⟨by unfold rtext; rw [hi], rfl, rfl, HC.out⟩⟩

def RFixPost (s : ByteArray) (w : World) (e : Ending) (w' : World) : Prop :=
  w = w' ∧ ∃ (x n : Nat) (c : Int), e = .returned (.tuple #[.int .u64 x, .int .i64 n, .int .i64 c]) ∧
    ((rfixed 8 s.data.toList = some (x, n) ∧ c = 0) ∨ (rfixed 8 s.data.toList = none ∧ x = 0 ∧ n = 0 ∧ c ≠ 0))

set_option maxHeartbeats 1000000 in
set_option maxRecDepth 100000 in
theorem rfixed_any (s : ByteArray) (w : World) (hs : s.size ≤ 140737488351232) : Calls Try.prog 36 #[.string s, .int .i64 8] w (RFixPost s w) := by
  have hlen : s.data.toList.length = s.size := by simp
  by_cases h8 : s.size < 8
  · have hr : rfixed 8 s.data.toList = none := if_pos (by rw [hlen]; exact h8)
    have HR := Lib.hid hr
    clear hr hlen
    go_enter Try.func36, Try.ntmps36
    go_wp2
    go_ret3
    exact ⟨rfl, 0, 0, 10, rfl, .inr ⟨HR.out, rfl, rfl, by decide⟩⟩
  · have hr : rfixed 8 s.data.toList = some (beFrom 0 (s.data.toList.take 8), 8) := if_neg (by rw [hlen]; exact h8)
    have HR := Lib.hid hr
    clear hr hlen
    go_enter Try.func36, Try.ntmps36
    go_wp2
    go_loopw [7, 8] (fun x i wr => ∃ k : Nat, i = .int .i64 k ∧ k ≤ 8 ∧ x = .int .u64 (beFrom 0 (s.data.toList.take k) : Nat) ∧ wr = w) (fun _ i _ => 8 - (intOf i).toNat)
    case atStart => exact ⟨0, rfl, by omega, rfl, rfl⟩
    case round =>
      obtain ⟨k, rfl, hk, rfl, rfl⟩ := hrel
      by_cases hlt : k < 8
      · have hb := UInt8.toNat_lt s[k]
        have hx := beFrom_take_lt s k 7 (by omega)
        simp only [Nat.reducePow] at hx
        have HT := Lib.hid (take_snoc s k (by omega))
        have HS := Lib.hid (beFrom_snoc 0 (s.data.toList.take k) s[k])
        generalize hX : beFrom 0 (s.data.toList.take k) = x at *
        clear hX
        go_wp2
        go_roundw
        case rel =>
          refine ⟨k + 1, by go_num, by omega, ?_, trivial⟩
          rw [HT.out, HS.out]; go_num
        case measure => simp [intOf]; omega
      · obtain rfl : k = 8 := by omega
        go_wp2
        go_ret3
        exact ⟨rfl, _, 8, 0, rfl, .inl ⟨HR.out, rfl⟩⟩
end Go.Proofs.Ytmkcphelmgkipaa
