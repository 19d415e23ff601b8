/- Plain functions on numbers and lists: numbers and texts as bytes. -/
import Derived.Test.YtmkcphelmgkipaaPure
import Derived.Lib.BitFns
import Derived.Lib.ItoaNum
set_option linter.unusedVariables false
set_option linter.unusedSimpArgs false
namespace Go.Proofs.Ytmkcphelmgkipaa
open Go.RowKit

/-- How many bytes a number needs. -/
def vsz (x : Nat) : Nat :=
  if x < 128 then 1 else if x < 16384 then 2 else if x < 2097152 then 3 else if x < 268435456 then 4 else if x < 34359738368 then 5
  else if x < 4398046511104 then 6 else if x < 562949953421312 then 7 else if x < 72057594037927936 then 8 else 9

theorem vsz_bd (x : Nat) : 1 ≤ vsz x ∧ vsz x ≤ 9 := by unfold vsz; repeat' split
                                                       all_goals omega

theorem bitLen_le_iff (x k : Nat) (hk : k ≤ 64) (hx : x < 2 ^ 64) : Lib.bitLen x ≤ k ↔ x < 2 ^ k := by
  constructor
  · intro h
    by_cases h0 : x = 0
    · subst h0; exact Nat.two_pow_pos k
    · have hb := (Lib.bitLenAux_bounds 64 x hx h0).2.2
      exact Nat.lt_of_lt_of_le hb (Nat.pow_le_pow_right (by omega) h)
  · exact fun h => Lib.bitLen_le x k hk h

theorem vsz_eq (x : Nat) (hx : x < 18446744073709551616) : min (max ((Lib.bitLen x + 6) / 7) 1) 9 = vsz x := by
  have h7 := bitLen_le_iff x 7 (by omega) (by simpa using hx)
  have h14 := bitLen_le_iff x 14 (by omega) (by simpa using hx)
  have h21 := bitLen_le_iff x 21 (by omega) (by simpa using hx)
  have h28 := bitLen_le_iff x 28 (by omega) (by simpa using hx)
  have h35 := bitLen_le_iff x 35 (by omega) (by simpa using hx)
  have h42 := bitLen_le_iff x 42 (by omega) (by simpa using hx)
  have h49 := bitLen_le_iff x 49 (by omega) (by simpa using hx)
  have h56 := bitLen_le_iff x 56 (by omega) (by simpa using hx)
  simp only [Nat.reducePow] at h7 h14 h21 h28 h35 h42 h49 h56
  generalize Lib.bitLen x = b at *
  unfold vsz
  repeat' split
  all_goals omega

/-- So many bytes of a number, the high one first. -/
def be (x : Nat) : Nat → List UInt8
  | 0 => []
  | n + 1 => UInt8.ofNat (x / 256 ^ n % 256) :: be x n
theorem be_length (x n : Nat) : (be x n).length = n := by induction n <;> simp [be, *]

/-- The bits of a first byte that tell that there are n bytes. -/
def hd (n : Nat) : Nat := 256 - 2 ^ (9 - n)

/-- A number in few bytes. -/
def vr (x : Nat) : List UInt8 := UInt8.ofNat (hd (vsz x) + x / 256 ^ (vsz x - 1)) :: be x (vsz x - 1)
theorem vr_length (x : Nat) : (vr x).length = vsz x := by
  have := vsz_bd x
  simp [vr, be_length]; omega

/-- A text: how many bytes there are, and these. -/
def txt (l : List UInt8) : List UInt8 := vr l.length ++ l

end Go.Proofs.Ytmkcphelmgkipaa
