import Derived.Test.YtmkcphelmgkipaaT2
set_option linter.unusedVariables false
set_option linter.unusedSimpArgs false
namespace Go.Proofs.Ytmkcphelmgkipaa
open Go.RowKit

set_option maxHeartbeats 400000 in
theorem sum_any (b off cap : Nat) (ss : List ByteArray) (w : World) (hl : ss.length ≤ maxLen)
    (hc : ∀ k, k < ss.length → w.cell? ⟨b, off + k, none⟩ = some (.string (ss.getD k ByteArray.empty))) (hs : ∀ s ∈ ss, s.size ≤ maxLen) :
    Calls Try.prog 75 #[.slice (some ⟨b, off, none⟩) ss.length cap] w fun e w' =>
      e = .returned (.int .u32 (sumOf (joined ss))) ∧ w = w' := by
  have H := more_any 0 (by omega) (by omega) b off cap ss w hl hc hs
  have H := Lib.hid H
  clear hc hs
  go_enter Try.func75, Try.ntmps75
  go_wp2_with (go_at_call 88; refine H.out.mono ?_; rintro e w' ⟨rfl, rfl⟩)
  go_ret
  exact ⟨rfl, rfl⟩

set_option maxHeartbeats 400000 in
theorem sum_one (b : Nat) (s : ByteArray) (w : World) (hc : w.cell? ⟨b, 0, none⟩ = some (.string s)) (hs : s.size ≤ maxLen) :
    Calls Try.prog 75 #[.slice (some ⟨b, 0, none⟩) 1 1] w fun e w' =>
      e = .returned (.int .u32 (sumOf s.data.toList)) ∧ w = w' := by
  have H := sum_any b 0 1 [s] w (by unfold maxLen; simp) (by intro k hk; simp at hk; subst hk; simpa using hc) (by simpa using hs)
  refine H.mono ?_
  rintro e w' ⟨h1, h2⟩
  exact ⟨by rw [h1]; simp [joined], h2⟩


/-- A number as four bytes, the lowest one first. -/
def four (x : Int) : List UInt8 := [UInt8.ofNat (x % 256).toNat, UInt8.ofNat (x / 256 % 256).toNat, UInt8.ofNat (x / 65536 % 256).toNat, UInt8.ofNat (x / 16777216).toNat]
def sealed (l : List UInt8) : List UInt8 := l ++ four (sumOf l)
/-- Bytes as a string. -/
def str (l : List UInt8) : ByteArray := ⟨l.toArray⟩
theorem str_data (l : List UInt8) : (str l).data.toList = l := rfl
theorem str_size (l : List UInt8) : (str l).size = l.length := by simp [str, ByteArray.size]
theorem str_append (s : ByteArray) (l : List UInt8) : s ++ str l = str (s.data.toList ++ l) := by
  apply ByteArray.ext; simp [str]

set_option maxHeartbeats 400000 in
set_option maxRecDepth 100000 in
theorem seal_any (s : ByteArray) (w : World) (hs : s.size ≤ 140737488351232) :
    Calls Try.prog 44 #[.string s] w fun e w' =>
      e = .returned (.string (str (sealed s.data.toList))) ∧ Below w.heap.size w w' := by
  have hss : s.size ≤ maxLen := by unfold maxLen; omega
  have hb := sumOf_bd s.data.toList
  have HE : Hid (sealed s.data.toList = s.data.toList ++ four (sumOf s.data.toList)) := rfl
  generalize hX : sumOf s.data.toList = X at *
  have HX := Lib.hid hX; clear hX
  have hcv := run_convert_bytes_arg (P := Try.prog) ((w.alloc (Obj.cells #[Value.string s] 9)).alloc
            (Obj.cells #[Value.int IntKind.u8 (X % 256), Value.int IntKind.u8 (X / 256 % 256), Value.int IntKind.u8 (X / 65536 % 256), Value.int IntKind.u8 (X / 16777216)] 5))
            52 5 Try.underlying52 Try.underlying5 (w.heap.size + 1) 0 4 4 [X % 256, X / 256 % 256, X / 65536 % 256, X / 16777216] rfl (by
              intro i hi
              rw [World.cell?_alloc_at (hn := by simp)]
              match i, hi with
              | 0, _ => rfl
              | 1, _ => rfl
              | 2, _ => rfl
              | 3, _ => rfl) 9 Try.underlying9
  rw [show strOfNums [X % 256, X / 256 % 256, X / 65536 % 256, X / 16777216] = str (four X) from rfl] at hcv
  have h4 : ¬ 9223372036854775807 < s.size + (str (four X)).size := by rw [str_size]; simp [four]; omega
  go_enter Try.func44, Try.ntmps44
  go_wp2_with fail
  refine (sum_one _ s _ (by simp) hss).mono ?_
  rintro e w' ⟨rfl, rfl⟩
  rw [HX.out]
  go_wp2
  go_ret
  refine ⟨?_, ((Below.refl _ w).alloc (Nat.le_refl _) _).alloc (by simp) _⟩
  rw [HE.out, ← str_append]; rfl

/-- Sealed bytes without their check sum, or why none. -/
def opened (l : List UInt8) : List UInt8 × Int :=
  if l.length < 4 then ([], 10) else if sealed (l.take (l.length - 4)) = l then (l.take (l.length - 4), 0) else ([], 13)

theorem str_of (s : ByteArray) : str s.data.toList = s := by apply ByteArray.ext; simp [str]


theorem str_inj {l m : List UInt8} (h : str l = str m) : l = m := by
  have := congrArg (fun s => s.data.toList) h
  simpa [str_data] using this

theorem ext_str (s : ByteArray) (a b : Nat) : s.extract a b = str ((s.data.toList.drop a).take (b - a)) := by
  rw [← Lib.extract_data, str_of]

/-- The walk's word for the comparison of two strings. -/
theorem beq_toList (a b : ByteArray) : (a.toList == b.toList) = decide (a = b) := by
  rw [ByteArray.toList_eq, ByteArray.toList_eq, Bool.eq_iff_iff, beq_iff_eq, decide_eq_true_iff]
  exact ⟨fun h => by rw [← str_of a, ← str_of b, h], fun h => by rw [h]⟩

theorem opened_short (l : List UInt8) (h : l.length < 4) : opened l = ([], 10) := if_pos h
theorem opened_bad (l : List UInt8) (h : ¬ l.length < 4) (h' : sealed (l.take (l.length - 4)) ≠ l) : opened l = ([], 13) := by unfold opened; rw [if_neg h, if_neg h']
theorem opened_good (l : List UInt8) (h : ¬ l.length < 4) (h' : sealed (l.take (l.length - 4)) = l) : opened l = (l.take (l.length - 4), 0) := by unfold opened; rw [if_neg h, if_pos h']

set_option maxHeartbeats 400000 in
set_option maxRecDepth 100000 in
theorem open_any (s : ByteArray) (w : World) (hs : s.size ≤ 140737488351232) :
    Calls Try.prog 26 #[.string s] w fun e w' =>
      e = .returned (.tuple #[.string (str (opened s.data.toList).1), .int .i64 (opened s.data.toList).2]) ∧ Below w.heap.size w w' := by
  by_cases h4 : s.size < 4
  · rw [opened_short _ (by simpa using h4)]
    go_enter Try.func26, Try.ntmps26
    go_wp2
    go_ret2
    exact ⟨rfl, Below.refl _ _⟩
  · have e1 : s.extract 0 (s.size - 4) = str (s.data.toList.take (s.data.toList.length - 4)) := by rw [ext_str]; simp
    have E1 := Lib.hid e1; clear e1
    have hl : ¬ s.data.toList.length < 4 := by simpa using h4
    have HL := Lib.hid hl; clear hl
    go_enter Try.func26, Try.ntmps26
    go_wp2_with fail
    refine (seal_any _ _ (by simp; omega)).mono ?_
    rintro e w1 ⟨rfl, hb⟩
    rw [E1.out, str_data]
    obtain ⟨y, hy⟩ : ∃ y, y = str (sealed (s.data.toList.take (s.data.toList.length - 4))) := ⟨_, rfl⟩
    rw [← hy]
    have HY := Lib.hid hy; clear hy
    go_wp2
    · have h : (!y.toList == s.toList) = true := by assumption
      rw [beq_toList, HY.out, ← str_of s] at h
      go_ret2
      rw [opened_bad _ HL.out (by intro h'; rw [str_data] at h; rw [h'] at h; simp at h)]
      exact ⟨rfl, hb⟩
    · have h : (!y.toList == s.toList) = false := by assumption
      rw [beq_toList, HY.out, ← str_of s] at h
      go_ret2
      rw [opened_good _ HL.out (by simp only [Bool.not_eq_false', decide_eq_true_eq] at h; have := str_inj h; rw [str_data] at this; exact this)]
      exact ⟨rfl, hb⟩
end Go.Proofs.Ytmkcphelmgkipaa
