import Derived.Test.YtmkcphelmgkipaaT4
import Derived.Deep.RegionWith
import Derived.Deep.RegionHeld3
import Derived.Deep.DrawnRows
set_option linter.unusedVariables false
set_option linter.unusedSimpArgs false
namespace Go.Proofs.Ytmkcphelmgkipaa
open Go.RowKit
attribute [local go_sem ↓] Go.wp_at_zero Go.wp_at_succ

theorem ret_int {k : IntKind} {a b : Int} (h : a = b) : Ending.returned (.int k a) = .returned (.int k b) := by rw [h]

set_option maxHeartbeats 400000 in
set_option maxRecDepth 100000 in
theorem rmore_any (s : ByteArray) (w : World) (hs : s.size ≤ maxLen) :
    Calls Try.prog 69 #[.int .u32 0, .string s] w fun e w' => e = .returned (.int .u32 (sumOf s.data.toList)) ∧ w = w' := by
  unfold maxLen at hs
  have HF : Hid (sumOf s.data.toList = 4294967295 - crcs 4294967295 s.data.toList) := rfl
  go_enter Try.func69, Try.ntmps69
  go_wp2
  go_loop [5, 6] (fun x i => ∃ j : Nat, j ≤ s.size ∧ i = .int .i64 j ∧ x = .int .u32 (crcs 4294967295 (s.data.toList.take j))) (fun _ i => s.size - (intOf i).toNat)
  case atStart => exact ⟨0, by omega, rfl, rfl⟩
  case round =>
    obtain ⟨j, hj, rfl, rfl⟩ := hrel
    have hy := crcs_bd 4294967295 (s.data.toList.take j) (by omega) (by omega)
    by_cases hjt : j < s.size
    · have hb := UInt8.toNat_lt s[j]
      have HT := Lib.hid (take_snoc s j hjt)
      generalize hX : crcs 4294967295 (s.data.toList.take j) = X at *
      have HX := Lib.hid hX; clear hX
      have hz := xr_bd X (s[j].toNat : Int) hy.1 hy.2 (by omega) (by omega)
      go_wp2
      go_loop [5, 7, 8] (fun y i _ => ∃ k : Nat, k ≤ 8 ∧ i = .int .i64 k ∧ y = .int .u32 (stps k (xr X s[j].toNat))) (fun _ i _ => 8 - (intOf i).toNat)
      case atStart => exact ⟨0, by omega, rfl, rfl⟩
      case round =>
        obtain ⟨k, hk, rfl, rfl⟩ := hrel
        have hs := stps_bd k _ hz.1 hz.2
        by_cases hlt : k < 8
        · have HS := Lib.hid (stps_succ k (xr X s[j].toNat))
          generalize hZ : stps k (xr X s[j].toNat) = z at *
          have HZ := Lib.hid hZ; clear hZ
          have HE := Lib.hid (stp_eq z hs.1 hs.2)
          by_cases hodd : z % 2 = 1
          · go_wp2
            go_round
            case rel => exact ⟨k + 1, by omega, by go_num, by rw [HS.out, HE.out, if_pos hodd]; rfl⟩
            case measure => simp [intOf]; omega
          · go_wp2
            go_round
            case rel => exact ⟨k + 1, by omega, by go_num, by rw [HS.out, HE.out, if_neg hodd]⟩
            case measure => simp [intOf]; omega
        · obtain rfl : k = 8 := by omega
          go_wp2
          go_round
          case rel => exact ⟨j + 1, by omega, by go_num, by rw [HT.out, crcs_snoc, HX.out]; rfl⟩
          case measure => simp [intOf]; omega
    · obtain rfl : j = s.size := by omega
      go_wp2
      go_ret
      exact ⟨by rw [HF.out]; exact ret_int (by rw [List.take_of_length_le (by simp)]), rfl⟩

theorem opened_iff (l : List UInt8) : four (sumOf (l.take (l.length - 4))) = l.drop (l.length - 4) ↔ l = sealed (l.take (l.length - 4)) := by
  unfold sealed
  constructor
  · intro h; rw [h]; simp
  · intro h
    have := congrArg (List.drop (l.length - 4)) h
    rw [this]
    simp

theorem ext_end (s : ByteArray) (j : Nat) : s.extract j s.size = str (s.data.toList.drop j) := by
  rw [ext_str, List.take_of_length_le (by simp)]

theorem below_drew {w w' : World} (h : Below w.drew.heap.size w.drew w') : Below w.heap.size w w' := (Below.refl _ w).drew.trans h

theorem ropen_bad (s : ByteArray) (i j : Nat) (h : (!(str (four (sumOf (List.take i s.data.toList)))).toList == (s.extract j s.size).toList) = true) (hi : i = s.size - 4) (hj : j = s.size - 4) (h4 : ¬ s.size < 4) :
    opened s.data.toList = ([], 13) := by
  subst hi hj
  have hsz : s.data.toList.length = s.size := by simp
  refine opened_bad _ (by rw [hsz]; exact h4) (fun h' => ?_)
  rw [eq_comm, ← opened_iff, hsz] at h'
  rw [beq_toList, ext_end, h'] at h
  simp at h

theorem ropen_good (s : ByteArray) (i j : Nat) (h : (!(str (four (sumOf (List.take i s.data.toList)))).toList == (s.extract j s.size).toList) = false) (hi : i = s.size - 4) (hj : j = s.size - 4) (h4 : ¬ s.size < 4) :
    opened s.data.toList = (s.data.toList.take (s.size - 4), 0) := by
  subst hi hj
  have hsz : s.data.toList.length = s.size := by simp
  rw [beq_toList, ext_end] at h
  simp only [Bool.not_eq_false', decide_eq_true_eq] at h
  have h2 := str_inj h
  rw [← hsz, opened_iff] at h2
  rw [opened_good _ (by rw [hsz]; exact h4) h2.symm, hsz]

set_option maxHeartbeats 400000 in
set_option maxRecDepth 100000 in
theorem ropen_any (s : ByteArray) (w : World) (hs : s.size ≤ 140737488351232) :
    Calls Try.prog 34 #[.string s] w fun e w' =>
      e = .returned (.tuple #[.string (str (opened s.data.toList).1), .int .i64 (opened s.data.toList).2]) ∧ Below w.heap.size w w' := by
  by_cases h4 : s.size < 4
  · rw [opened_short _ (by simpa using h4)]
    go_enter Try.func34, Try.ntmps34
    go_wp2
    go_ret2
    exact ⟨rfl, Below.refl _ _⟩
  · have hl : ¬ s.data.toList.length < 4 := by simpa using h4
    have HL := Lib.hid hl; clear hl
    have b1 : (0 : Int) ≤ (s.size : Int) - 4 := by omega
    have b2 : (s.size : Int) - 4 ≤ (s.size : Int) := by omega
    go_enter Try.func34, Try.ntmps34
    go_wp2
    go_region_with (first | (go_at_call 69; refine (rmore_any _ _ ?_).mono ?_; (simp [maxLen]; omega); rintro e w' ⟨rfl, rfl⟩) | (go_at_call 68; refine (four_any _ (sumOf_bd _).1 (sumOf_bd _).2 _).mono ?_; rintro e w' ⟨rfl, hb⟩))
    all_goals go_wp2
    all_goals go_ret2
    all_goals first
      | (have h := ropen_bad s _ _ (by assumption) (by omega) (by omega) h4; rw [h]; exact ⟨rfl, below_drew hb⟩)
      | (have h := ropen_good s _ _ (by assumption) (by omega) (by omega) h4; rw [h, ext_str]; exact ⟨by simp, below_drew hb⟩)
end Go.Proofs.Ytmkcphelmgkipaa
