import Derived.Test.YtmkcphelmgkipaaT1
set_option linter.unusedVariables false
set_option linter.unusedSimpArgs false
namespace Go.Proofs.Ytmkcphelmgkipaa
open Go.RowKit

def joined (ss : List ByteArray) : List UInt8 := (ss.map (fun s => s.data.toList)).flatten

theorem joined_snoc (ss : List ByteArray) (k : Nat) (h : k < ss.length) : joined (ss.take (k + 1)) = joined (ss.take k) ++ (ss.getD k ByteArray.empty).data.toList := by
  unfold joined
  rw [List.take_succ_eq_append_getElem h, List.map_append, List.flatten_append]
  simp [h]

theorem take_snoc (s : ByteArray) (k : Nat) (h : k < s.size) : s.data.toList.take (k + 1) = s.data.toList.take k ++ [s[k]] := by
  rw [List.take_succ_eq_append_getElem (by simpa using h)]; rfl

theorem cmp_eq (c : Int) (h0 : 0 ≤ c) (h1 : c < 4294967296) : bits BinOp.xor IntKind.u32 IntKind.u32.max c = 4294967295 - c := by
  obtain ⟨a, rfl⟩ := Int.eq_ofNat_of_zero_le h0
  have h := (bits_u32 4294967295 a (by omega) (by omega)).1
  have e : IntKind.u32.max = ((4294967295 : Nat) : Int) := by rfl
  rw [e, h]
  have hx : 4294967295 ^^^ a = 4294967295 - a := by
    have := BitVec.toNat_not (x := BitVec.ofNat 32 a)
    rw [← BitVec.xor_allOnes] at this
    simp only [BitVec.toNat_xor, BitVec.toNat_ofNat, BitVec.toNat_allOnes] at this
    rw [Nat.mod_eq_of_lt (by omega)] at this
    rw [Nat.xor_comm]; simpa using this
  rw [hx]; omega

theorem crcs_append (x : Int) (l m : List UInt8) : crcs x (l ++ m) = crcs (crcs x l) m := by simp [crcs]

theorem sizes_at {ss : List ByteArray} (hs : ∀ s ∈ ss, s.size ≤ maxLen) (k : Nat) : (ss.getD k ByteArray.empty).size ≤ maxLen := by
  by_cases h : k < ss.length
  · simp only [List.getD_eq_getElem?_getD, List.getElem?_eq_getElem h, Option.getD_some]; exact hs _ (List.getElem_mem h)
  · simp only [List.getD_eq_getElem?_getD, List.getElem?_eq_none (by omega : ss.length ≤ k), Option.getD_none]; unfold maxLen; decide

set_option maxHeartbeats 400000 in
theorem more_any (c : Int) (h0 : 0 ≤ c) (h1 : c < 4294967296) (b off cap : Nat) (ss : List ByteArray) (w : World) (hl : ss.length ≤ maxLen)
    (hc : ∀ k, k < ss.length → w.cell? ⟨b, off + k, none⟩ = some (.string (ss.getD k ByteArray.empty))) (hs : ∀ s ∈ ss, s.size ≤ maxLen) :
    Calls Try.prog 88 #[.int .u32 c, .slice (some ⟨b, off, none⟩) ss.length cap] w fun e w' =>
      e = .returned (.int .u32 (4294967295 - crcs (4294967295 - c) (joined ss))) ∧ w = w' := by
  unfold maxLen at hl
  have HS := Lib.hid hs; clear hs
  have HC := Lib.hid hc; clear hc
  go_enter Try.func88, Try.ntmps88
  go_wp2
  go_loop [5, 13] (fun x i => ∃ k : Nat, k ≤ ss.length ∧ i = .int .i64 k ∧ x = .int .u32 (crcs (4294967295 - c) (joined (ss.take k)))) (fun _ i => ss.length - (intOf i).toNat)
  case atStart => exact ⟨0, by omega, rfl, by rw [cmp_eq c h0 h1]; rfl⟩
  case round =>
    obtain ⟨k, hk, rfl, rfl⟩ := hrel
    have hx := crcs_bd (4294967295 - c) (joined (ss.take k)) (by omega) (by omega)
    by_cases hlt : k < ss.length
    · have hcell := HC.out k hlt
      have hsz := sizes_at HS.out k
      have HJ := Lib.hid (joined_snoc ss k hlt)
      obtain ⟨s, hse⟩ : ∃ s, s = ss.getD k ByteArray.empty := ⟨_, rfl⟩
      rw [← hse] at hcell hsz HJ
      clear hse
      unfold maxLen at hsz
      generalize hX : crcs (4294967295 - c) (joined (ss.take k)) = X at *
      have HX := Lib.hid hX; clear hX
      go_wp2
      go_loop [5, 19] (fun x i => ∃ j : Nat, j ≤ s.size ∧ i = .int .i64 j ∧ x = .int .u32 (crcs X (s.data.toList.take j))) (fun _ i => s.size - (intOf i).toNat)
      case atStart => exact ⟨0, by omega, rfl, rfl⟩
      case round =>
        obtain ⟨j, hj, rfl, rfl⟩ := hrel
        have hy := crcs_bd X (s.data.toList.take j) hx.1 hx.2
        by_cases hjt : j < s.size
        · have hb := UInt8.toNat_lt s[j]
          have HT := Lib.hid (take_snoc s j hjt)
          go_wp2_with (go_at_call 99; refine (byted_any _ _ hy.1 hy.2 (by omega) (by omega) _).mono ?_; rintro e w' ⟨rfl, rfl⟩)
          go_round
          case rel => exact ⟨j + 1, by omega, by go_num, by rw [HT.out, crcs_snoc]⟩
          case measure => simp [intOf]; omega
        · obtain rfl : j = s.size := by omega
          go_wp2
          go_round
          case rel => exact ⟨k + 1, by omega, by go_num, by rw [HJ.out, crcs_append, HX.out, List.take_of_length_le (by simp)]⟩
          case measure => simp [intOf]; omega
    · obtain rfl : k = ss.length := by omega
      rw [List.take_length] at hx
      go_wp2
      go_ret
      exact ⟨by rw [← cmp_eq _ hx.1 hx.2]; rfl, rfl⟩
end Go.Proofs.Ytmkcphelmgkipaa
