/- Plain functions on numbers and lists: the check sum, step by step. -/
import Derived.RowKit
set_option linter.unusedVariables false
set_option linter.unusedSimpArgs false
namespace Go.Proofs.Ytmkcphelmgkipaa
open Go.RowKit

/-- A register, moved by a bit, as the program writes it. -/
def stp (x : Int) : Int := bits BinOp.xor IntKind.u32 (x / 2) (bits BinOp.and IntKind.u32 2197175160 (-bits BinOp.and IntKind.u32 x 1 % 4294967296))

theorem wrap_u32_eq (n : Int) : IntKind.u32.wrap n = n % 4294967296 := by simp [IntKind.wrap, IntKind.bits, IntKind.signed]

theorem bits_u32 (x y : Nat) (hx : x < 4294967296) (hy : y < 4294967296) :
    bits BinOp.xor IntKind.u32 x y = ((x ^^^ y : Nat) : Int) ∧ bits BinOp.and IntKind.u32 x y = ((x &&& y : Nat) : Int) := by
  have e : ∀ a : Nat, a < 4294967296 → (BitVec.ofInt 32 (a : Int)).toNat = a := fun a ha => by
    rw [BitVec.ofInt_natCast, BitVec.toNat_ofNat]; exact Nat.mod_eq_of_lt ha
  have h1 : x ^^^ y < 2 ^ 32 := Nat.xor_lt_two_pow (by omega) (by omega)
  have h2 : x &&& y < 2 ^ 32 := Nat.and_lt_two_pow _ (by omega)
  constructor
  · show IntKind.u32.wrap ((BitVec.ofInt 32 (x : Int) ^^^ BitVec.ofInt 32 (y : Int)).toNat : Int) = _
    rw [BitVec.toNat_xor, e x hx, e y hy, wrap_u32_eq]; omega
  · show IntKind.u32.wrap ((BitVec.ofInt 32 (x : Int) &&& BitVec.ofInt 32 (y : Int)).toNat : Int) = _
    rw [BitVec.toNat_and, e x hx, e y hy, wrap_u32_eq]; omega

/-- The exclusive or of two registers. -/
def xr (x y : Int) : Int := bits BinOp.xor IntKind.u32 x y

theorem xr_nat (x y : Nat) (hx : x < 4294967296) (hy : y < 4294967296) : xr x y = ((x ^^^ y : Nat) : Int) := (bits_u32 x y hx hy).1

theorem xr_bd (x y : Int) (hx : 0 ≤ x) (hx' : x < 4294967296) (hy : 0 ≤ y) (hy' : y < 4294967296) : 0 ≤ xr x y ∧ xr x y < 4294967296 := by
  obtain ⟨a, rfl⟩ := Int.eq_ofNat_of_zero_le hx
  obtain ⟨b, rfl⟩ := Int.eq_ofNat_of_zero_le hy
  rw [xr_nat a b (by omega) (by omega)]
  have : a ^^^ b < 2 ^ 32 := Nat.xor_lt_two_pow (by omega) (by omega)
  omega

theorem xr_zero (x : Int) (hx : 0 ≤ x) (hx' : x < 4294967296) : xr x 0 = x := by
  obtain ⟨a, rfl⟩ := Int.eq_ofNat_of_zero_le hx
  have := xr_nat a 0 (by omega) (by omega)
  simpa using this

theorem stp_eq (x : Int) (h0 : 0 ≤ x) (h1 : x < 4294967296) : stp x = if x % 2 = 1 then xr (x / 2) 2197175160 else x / 2 := by
  obtain ⟨a, rfl⟩ := Int.eq_ofNat_of_zero_le h0
  have hand : bits BinOp.and IntKind.u32 (a : Int) 1 = ((a % 2 : Nat) : Int) := by
    have := (bits_u32 a 1 (by omega) (by omega)).2
    rw [Nat.and_one_is_mod] at this; simpa using this
  unfold stp
  rw [hand]
  have hd : ((a : Int) / 2) = ((a / 2 : Nat) : Int) := by omega
  rcases Nat.mod_two_eq_zero_or_one a with h | h
  · rw [if_neg (by omega), h]
    have h3 : bits BinOp.and IntKind.u32 2197175160 (-((0 : Nat) : Int) % 4294967296) = 0 := by
      have := (bits_u32 2197175160 0 (by omega) (by omega)).2
      simpa using this
    rw [h3, hd]
    exact xr_zero _ (by omega) (by omega)
  · rw [if_pos (by omega), h]
    have h3 : bits BinOp.and IntKind.u32 2197175160 (-((1 : Nat) : Int) % 4294967296) = 2197175160 := by
      have := (bits_u32 2197175160 4294967295 (by omega) (by omega)).2
      have e : (-((1 : Nat) : Int) % 4294967296) = ((4294967295 : Nat) : Int) := by omega
      rw [e]; simpa using this
    rw [h3]; rfl

theorem stp_bd (x : Int) (h0 : 0 ≤ x) (h1 : x < 4294967296) : 0 ≤ stp x ∧ stp x < 4294967296 := by
  rw [stp_eq x h0 h1]; split
  · exact xr_bd _ _ (by omega) (by omega) (by omega) (by omega)
  · omega

/-- So many steps. -/
def stps : Nat → Int → Int
  | 0, x => x
  | n + 1, x => stps n (stp x)

theorem stps_succ (n : Nat) (x : Int) : stps (n + 1) x = stp (stps n x) := by
  induction n generalizing x with
  | zero => rfl
  | succ n ih => rw [stps, ih]; rfl

theorem stps_bd (n : Nat) (x : Int) (h0 : 0 ≤ x) (h1 : x < 4294967296) : 0 ≤ stps n x ∧ stps n x < 4294967296 := by
  induction n generalizing x with
  | zero => exact ⟨h0, h1⟩
  | succ n ih => exact ih _ (stp_bd x h0 h1).1 (stp_bd x h0 h1).2

/-- A register that took a byte. -/
def bytd (x b : Int) : Int := stps 8 (xr x b)

theorem bytd_bd (x b : Int) (h0 : 0 ≤ x) (h1 : x < 4294967296) (hb : 0 ≤ b) (hb' : b < 256) : 0 ≤ bytd x b ∧ bytd x b < 4294967296 :=
  have h := xr_bd x b h0 h1 hb (by omega)
  stps_bd 8 _ h.1 h.2

/-- A register that took bytes. -/
def crcs (x : Int) (l : List UInt8) : Int := l.foldl (fun x c => bytd x (c.toNat : Int)) x

theorem crcs_bd (x : Int) (l : List UInt8) (h0 : 0 ≤ x) (h1 : x < 4294967296) : 0 ≤ crcs x l ∧ crcs x l < 4294967296 := by
  induction l generalizing x with
  | nil => exact ⟨h0, h1⟩
  | cons c l ih =>
    have hc := UInt8.toNat_lt c
    have h := bytd_bd x c.toNat h0 h1 (by omega) (by omega)
    exact ih _ h.1 h.2

theorem crcs_snoc (x : Int) (l : List UInt8) (c : UInt8) : crcs x (l ++ [c]) = bytd (crcs x l) c.toNat := by simp [crcs]

/-- The check sum of bytes. -/
def sumOf (l : List UInt8) : Int := 4294967295 - crcs 4294967295 l

theorem sumOf_bd (l : List UInt8) : 0 ≤ sumOf l ∧ sumOf l < 4294967296 := by
  have := crcs_bd 4294967295 l (by omega) (by omega)
  unfold sumOf; omega

end Go.Proofs.Ytmkcphelmgkipaa
