import Derived.Test.YtmkcphelmgkipaaRows
import Derived.Test.YtmkcphelmgkipaaProg
import Derived.RowKit
import Derived.WalkKit
import Derived.WalkSpells
import Derived.WalkLawsBesides
import Derived.Lib.Hide
import Derived.Lib.Strings
import Derived.Lib.SmallJoins
import Derived.Deep.QuietTactic
import Derived.BigQuiet
import Derived.OwnWalk
import Derived.Deep.RegionWith
import Derived.Deep.RegionHeld3
import Derived.Deep.DrawnRows
import Derived.Lib.BitFns
import Derived.Lib.ItoaNum
import Derived.Shelf.Small.Bits
import Derived.Shelf.Strconv.Itoa0
import Derived.Shelf.Strings.Prefix
import Derived.Lib.AppendStr
import Derived.Maps.AppendAt
set_option linter.unusedVariables false
set_option linter.unusedSimpArgs false
/- Plain functions on numbers and lists: the check sum, step by step. -/
namespace Go.Proofs.Ytmkcphelmgkipaa
open Go.RowKit

/-- A register, moved by a bit, as the program writes it. -/
def stp (x : Int) : Int := bits BinOp.xor IntKind.u32 (x / 2) (bits BinOp.and IntKind.u32 2197175160 (-bits BinOp.and IntKind.u32 x 1 % 4294967296))

theorem wrap_u32_eq (n : Int) : IntKind.u32.wrap n = n % 4294967296 := by simp [IntKind.wrap, IntKind.bits, IntKind.signed]

theorem bits_u32 (x y : Nat) (hx : x < 4294967296) (hy : y < 4294967296) :
    bits BinOp.xor IntKind.u32 x y = ((x ^^^ y : Nat) : Int) ∧ bits BinOp.and IntKind.u32 x y = ((x &&& y : Nat) : Int) := by
  have e : ∀ a : Nat, a < 4294967296 → (BitVec.ofInt 32 (a : Int)).toNat = a := fun a ha => by
    rw [BitVec.ofInt_natCast, BitVec.toNat_ofNat]; exact Nat.mod_eq_of_lt ha
  have h1 : x ^^^ y < 2 ^ 32 := Nat.xor_lt_two_pow (by omega) (by omega)
  have h2 : x &&& y < 2 ^ 32 := Nat.and_lt_two_pow _ (by omega)
  constructor
  · show IntKind.u32.wrap ((BitVec.ofInt 32 (x : Int) ^^^ BitVec.ofInt 32 (y : Int)).toNat : Int) = _
    rw [BitVec.toNat_xor, e x hx, e y hy, wrap_u32_eq]; omega
  · show IntKind.u32.wrap ((BitVec.ofInt 32 (x : Int) &&& BitVec.ofInt 32 (y : Int)).toNat : Int) = _
    rw [BitVec.toNat_and, e x hx, e y hy, wrap_u32_eq]; omega

/-- The exclusive or of two registers. -/
def xr (x y : Int) : Int := bits BinOp.xor IntKind.u32 x y

theorem xr_nat (x y : Nat) (hx : x < 4294967296) (hy : y < 4294967296) : xr x y = ((x ^^^ y : Nat) : Int) := (bits_u32 x y hx hy).1

theorem xr_bd (x y : Int) (hx : 0 ≤ x) (hx' : x < 4294967296) (hy : 0 ≤ y) (hy' : y < 4294967296) : 0 ≤ xr x y ∧ xr x y < 4294967296 := by
  obtain ⟨a, rfl⟩ := Int.eq_ofNat_of_zero_le hx
  obtain ⟨b, rfl⟩ := Int.eq_ofNat_of_zero_le hy
  rw [xr_nat a b (by omega) (by omega)]
  have : a ^^^ b < 2 ^ 32 := Nat.xor_lt_two_pow (by omega) (by omega)
  omega

theorem xr_zero (x : Int) (hx : 0 ≤ x) (hx' : x < 4294967296) : xr x 0 = x := by
  obtain ⟨a, rfl⟩ := Int.eq_ofNat_of_zero_le hx
  have := xr_nat a 0 (by omega) (by omega)
  simpa using this

theorem stp_eq (x : Int) (h0 : 0 ≤ x) (h1 : x < 4294967296) : stp x = if x % 2 = 1 then xr (x / 2) 2197175160 else x / 2 := by
  obtain ⟨a, rfl⟩ := Int.eq_ofNat_of_zero_le h0
  have hand : bits BinOp.and IntKind.u32 (a : Int) 1 = ((a % 2 : Nat) : Int) := by
    have := (bits_u32 a 1 (by omega) (by omega)).2
    rw [Nat.and_one_is_mod] at this; simpa using this
  unfold stp
  rw [hand]
  have hd : ((a : Int) / 2) = ((a / 2 : Nat) : Int) := by omega
  rcases Nat.mod_two_eq_zero_or_one a with h | h
  · rw [if_neg (by omega), h]
    have h3 : bits BinOp.and IntKind.u32 2197175160 (-((0 : Nat) : Int) % 4294967296) = 0 := by
      have := (bits_u32 2197175160 0 (by omega) (by omega)).2
      simpa using this
    rw [h3, hd]
    exact xr_zero _ (by omega) (by omega)
  · rw [if_pos (by omega), h]
    have h3 : bits BinOp.and IntKind.u32 2197175160 (-((1 : Nat) : Int) % 4294967296) = 2197175160 := by
      have := (bits_u32 2197175160 4294967295 (by omega) (by omega)).2
      have e : (-((1 : Nat) : Int) % 4294967296) = ((4294967295 : Nat) : Int) := by omega
      rw [e]; simpa using this
    rw [h3]; rfl

theorem stp_bd (x : Int) (h0 : 0 ≤ x) (h1 : x < 4294967296) : 0 ≤ stp x ∧ stp x < 4294967296 := by
  rw [stp_eq x h0 h1]; split
  · exact xr_bd _ _ (by omega) (by omega) (by omega) (by omega)
  · omega

/-- So many steps. -/
def stps : Nat → Int → Int
  | 0, x => x
  | n + 1, x => stps n (stp x)

theorem stps_succ (n : Nat) (x : Int) : stps (n + 1) x = stp (stps n x) := by
  induction n generalizing x with
  | zero => rfl
  | succ n ih => rw [stps, ih]; rfl

theorem stps_bd (n : Nat) (x : Int) (h0 : 0 ≤ x) (h1 : x < 4294967296) : 0 ≤ stps n x ∧ stps n x < 4294967296 := by
  induction n generalizing x with
  | zero => exact ⟨h0, h1⟩
  | succ n ih => exact ih _ (stp_bd x h0 h1).1 (stp_bd x h0 h1).2

/-- A register that took a byte. -/
def bytd (x b : Int) : Int := stps 8 (xr x b)

theorem bytd_bd (x b : Int) (h0 : 0 ≤ x) (h1 : x < 4294967296) (hb : 0 ≤ b) (hb' : b < 256) : 0 ≤ bytd x b ∧ bytd x b < 4294967296 :=
  have h := xr_bd x b h0 h1 hb (by omega)
  stps_bd 8 _ h.1 h.2

/-- A register that took bytes. -/
def crcs (x : Int) (l : List UInt8) : Int := l.foldl (fun x c => bytd x (c.toNat : Int)) x

theorem crcs_bd (x : Int) (l : List UInt8) (h0 : 0 ≤ x) (h1 : x < 4294967296) : 0 ≤ crcs x l ∧ crcs x l < 4294967296 := by
  induction l generalizing x with
  | nil => exact ⟨h0, h1⟩
  | cons c l ih =>
    have hc := UInt8.toNat_lt c
    have h := bytd_bd x c.toNat h0 h1 (by omega) (by omega)
    exact ih _ h.1 h.2

theorem crcs_snoc (x : Int) (l : List UInt8) (c : UInt8) : crcs x (l ++ [c]) = bytd (crcs x l) c.toNat := by simp [crcs]

/-- The check sum of bytes. -/
def sumOf (l : List UInt8) : Int := 4294967295 - crcs 4294967295 l

theorem sumOf_bd (l : List UInt8) : 0 ≤ sumOf l ∧ sumOf l < 4294967296 := by
  have := crcs_bd 4294967295 l (by omega) (by omega)
  unfold sumOf; omega

end Go.Proofs.Ytmkcphelmgkipaa

namespace Go.Proofs.Ytmkcphelmgkipaa
open Go.RowKit

set_option maxHeartbeats 400000 in
theorem step_any (x : Int) (h0 : 0 ≤ x) (h1 : x < 4294967296) (w : World) :
    Calls Try.prog 105 #[.int .u32 x] w fun e w' => e = .returned (.int .u32 (stp x)) ∧ w = w' := by
  go_enter Try.func105, Try.ntmps105
  go_wp2
  go_ret
  exact ⟨rfl, rfl⟩

set_option maxHeartbeats 400000 in
theorem byted_any (x b : Int) (h0 : 0 ≤ x) (h1 : x < 4294967296) (hb : 0 ≤ b) (hb' : b < 256) (w : World) :
    Calls Try.prog 99 #[.int .u32 x, .int .u8 b] w fun e w' => e = .returned (.int .u32 (bytd x b)) ∧ w = w' := by
  go_enter Try.func99, Try.ntmps99
  go_wp2
  go_loop [0, 9] (fun y i => ∃ k : Nat, k ≤ 8 ∧ i = .int .i64 k ∧ y = .int .u32 (stps k (xr x b))) (fun _ i => 8 - (intOf i).toNat)
  case atStart => exact ⟨0, by omega, rfl, rfl⟩
  case round =>
    obtain ⟨k, hk, rfl, rfl⟩ := hrel
    have hx := xr_bd x b h0 h1 hb (by omega)
    have hs := stps_bd k _ hx.1 hx.2
    by_cases hlt : k < 8
    · go_wp2_with (go_at_call 105; refine (step_any _ hs.1 hs.2 _).mono ?_; rintro e w' ⟨rfl, rfl⟩)
      go_round
      case rel => exact ⟨k + 1, by omega, by go_num, by rw [stps_succ]⟩
      case measure => simp [intOf]; omega
    · obtain rfl : k = 8 := by omega
      go_wp2
      go_ret
      exact ⟨rfl, rfl⟩
end Go.Proofs.Ytmkcphelmgkipaa

namespace Go.Proofs.Ytmkcphelmgkipaa
open Go.RowKit

def joined (ss : List ByteArray) : List UInt8 := (ss.map (fun s => s.data.toList)).flatten

theorem joined_snoc (ss : List ByteArray) (k : Nat) (h : k < ss.length) : joined (ss.take (k + 1)) = joined (ss.take k) ++ (ss.getD k ByteArray.empty).data.toList := by
  unfold joined
  rw [List.take_succ_eq_append_getElem h, List.map_append, List.flatten_append]
  simp [h]

theorem take_snoc (s : ByteArray) (k : Nat) (h : k < s.size) : s.data.toList.take (k + 1) = s.data.toList.take k ++ [s[k]] := by
  rw [List.take_succ_eq_append_getElem (by simpa using h)]; rfl

theorem cmp_eq (c : Int) (h0 : 0 ≤ c) (h1 : c < 4294967296) : bits BinOp.xor IntKind.u32 IntKind.u32.max c = 4294967295 - c := by
  obtain ⟨a, rfl⟩ := Int.eq_ofNat_of_zero_le h0
  have h := (bits_u32 4294967295 a (by omega) (by omega)).1
  have e : IntKind.u32.max = ((4294967295 : Nat) : Int) := by rfl
  rw [e, h]
  have hx : 4294967295 ^^^ a = 4294967295 - a := by
    have := BitVec.toNat_not (x := BitVec.ofNat 32 a)
    rw [← BitVec.xor_allOnes] at this
    simp only [BitVec.toNat_xor, BitVec.toNat_ofNat, BitVec.toNat_allOnes] at this
    rw [Nat.mod_eq_of_lt (by omega)] at this
    rw [Nat.xor_comm]; simpa using this
  rw [hx]; omega

theorem crcs_append (x : Int) (l m : List UInt8) : crcs x (l ++ m) = crcs (crcs x l) m := by simp [crcs]

theorem sizes_at {ss : List ByteArray} (hs : ∀ s ∈ ss, s.size ≤ maxLen) (k : Nat) : (ss.getD k ByteArray.empty).size ≤ maxLen := by
  by_cases h : k < ss.length
  · simp only [List.getD_eq_getElem?_getD, List.getElem?_eq_getElem h, Option.getD_some]; exact hs _ (List.getElem_mem h)
  · simp only [List.getD_eq_getElem?_getD, List.getElem?_eq_none (by omega : ss.length ≤ k), Option.getD_none]; unfold maxLen; decide

set_option maxHeartbeats 400000 in
theorem more_any (c : Int) (h0 : 0 ≤ c) (h1 : c < 4294967296) (b off cap : Nat) (ss : List ByteArray) (w : World) (hl : ss.length ≤ maxLen)
    (hc : ∀ k, k < ss.length → w.cell? ⟨b, off + k, none⟩ = some (.string (ss.getD k ByteArray.empty))) (hs : ∀ s ∈ ss, s.size ≤ maxLen) :
    Calls Try.prog 88 #[.int .u32 c, .slice (some ⟨b, off, none⟩) ss.length cap] w fun e w' =>
      e = .returned (.int .u32 (4294967295 - crcs (4294967295 - c) (joined ss))) ∧ w = w' := by
  unfold maxLen at hl
  have HS := Lib.hid hs; clear hs
  have HC := Lib.hid hc; clear hc
  go_enter Try.func88, Try.ntmps88
  go_wp2
  go_loop [5, 13] (fun x i => ∃ k : Nat, k ≤ ss.length ∧ i = .int .i64 k ∧ x = .int .u32 (crcs (4294967295 - c) (joined (ss.take k)))) (fun _ i => ss.length - (intOf i).toNat)
  case atStart => exact ⟨0, by omega, rfl, by rw [cmp_eq c h0 h1]; rfl⟩
  case round =>
    obtain ⟨k, hk, rfl, rfl⟩ := hrel
    have hx := crcs_bd (4294967295 - c) (joined (ss.take k)) (by omega) (by omega)
    by_cases hlt : k < ss.length
    · have hcell := HC.out k hlt
      have hsz := sizes_at HS.out k
      have HJ := Lib.hid (joined_snoc ss k hlt)
      obtain ⟨s, hse⟩ : ∃ s, s = ss.getD k ByteArray.empty := ⟨_, rfl⟩
      rw [← hse] at hcell hsz HJ
      clear hse
      unfold maxLen at hsz
      generalize hX : crcs (4294967295 - c) (joined (ss.take k)) = X at *
      have HX := Lib.hid hX; clear hX
      go_wp2
      go_loop [5, 19] (fun x i => ∃ j : Nat, j ≤ s.size ∧ i = .int .i64 j ∧ x = .int .u32 (crcs X (s.data.toList.take j))) (fun _ i => s.size - (intOf i).toNat)
      case atStart => exact ⟨0, by omega, rfl, rfl⟩
      case round =>
        obtain ⟨j, hj, rfl, rfl⟩ := hrel
        have hy := crcs_bd X (s.data.toList.take j) hx.1 hx.2
        by_cases hjt : j < s.size
        · have hb := UInt8.toNat_lt s[j]
          have HT := Lib.hid (take_snoc s j hjt)
          go_wp2_with (go_at_call 99; refine (byted_any _ _ hy.1 hy.2 (by omega) (by omega) _).mono ?_; rintro e w' ⟨rfl, rfl⟩)
          go_round
          case rel => exact ⟨j + 1, by omega, by go_num, by rw [HT.out, crcs_snoc]⟩
          case measure => simp [intOf]; omega
        · obtain rfl : j = s.size := by omega
          go_wp2
          go_round
          case rel => exact ⟨k + 1, by omega, by go_num, by rw [HJ.out, crcs_append, HX.out, List.take_of_length_le (by simp)]⟩
          case measure => simp [intOf]; omega
    · obtain rfl : k = ss.length := by omega
      rw [List.take_length] at hx
      go_wp2
      go_ret
      exact ⟨by rw [← cmp_eq _ hx.1 hx.2]; rfl, rfl⟩
end Go.Proofs.Ytmkcphelmgkipaa

namespace Go.Proofs.Ytmkcphelmgkipaa
open Go.RowKit

set_option maxHeartbeats 400000 in
theorem sum_any (b off cap : Nat) (ss : List ByteArray) (w : World) (hl : ss.length ≤ maxLen)
    (hc : ∀ k, k < ss.length → w.cell? ⟨b, off + k, none⟩ = some (.string (ss.getD k ByteArray.empty))) (hs : ∀ s ∈ ss, s.size ≤ maxLen) :
    Calls Try.prog 75 #[.slice (some ⟨b, off, none⟩) ss.length cap] w fun e w' =>
      e = .returned (.int .u32 (sumOf (joined ss))) ∧ w = w' := by
  have H := more_any 0 (by omega) (by omega) b off cap ss w hl hc hs
  have H := Lib.hid H
  clear hc hs
  go_enter Try.func75, Try.ntmps75
  go_wp2_with (go_at_call 88; refine H.out.mono ?_; rintro e w' ⟨rfl, rfl⟩)
  go_ret
  exact ⟨rfl, rfl⟩

set_option maxHeartbeats 400000 in
theorem sum_one (b : Nat) (s : ByteArray) (w : World) (hc : w.cell? ⟨b, 0, none⟩ = some (.string s)) (hs : s.size ≤ maxLen) :
    Calls Try.prog 75 #[.slice (some ⟨b, 0, none⟩) 1 1] w fun e w' =>
      e = .returned (.int .u32 (sumOf s.data.toList)) ∧ w = w' := by
  have H := sum_any b 0 1 [s] w (by unfold maxLen; simp) (by intro k hk; simp at hk; subst hk; simpa using hc) (by simpa using hs)
  refine H.mono ?_
  rintro e w' ⟨h1, h2⟩
  exact ⟨by rw [h1]; simp [joined], h2⟩


/-- A number as four bytes, the lowest one first. -/
def four (x : Int) : List UInt8 := [UInt8.ofNat (x % 256).toNat, UInt8.ofNat (x / 256 % 256).toNat, UInt8.ofNat (x / 65536 % 256).toNat, UInt8.ofNat (x / 16777216).toNat]
def sealed (l : List UInt8) : List UInt8 := l ++ four (sumOf l)
/-- Bytes as a string. -/
def str (l : List UInt8) : ByteArray := ⟨l.toArray⟩
theorem str_data (l : List UInt8) : (str l).data.toList = l := rfl
theorem str_size (l : List UInt8) : (str l).size = l.length := by simp [str, ByteArray.size]
theorem str_append (s : ByteArray) (l : List UInt8) : s ++ str l = str (s.data.toList ++ l) := by
  apply ByteArray.ext; simp [str]

set_option maxHeartbeats 400000 in
set_option maxRecDepth 100000 in
theorem seal_any (s : ByteArray) (w : World) (hs : s.size ≤ 140737488351232) :
    Calls Try.prog 44 #[.string s] w fun e w' =>
      e = .returned (.string (str (sealed s.data.toList))) ∧ Below w.heap.size w w' := by
  have hss : s.size ≤ maxLen := by unfold maxLen; omega
  have hb := sumOf_bd s.data.toList
  have HE : Hid (sealed s.data.toList = s.data.toList ++ four (sumOf s.data.toList)) := rfl
  generalize hX : sumOf s.data.toList = X at *
  have HX := Lib.hid hX; clear hX
  have hcv := run_convert_bytes_arg (P := Try.prog) ((w.alloc (Obj.cells #[Value.string s] 9)).alloc
            (Obj.cells #[Value.int IntKind.u8 (X % 256), Value.int IntKind.u8 (X / 256 % 256), Value.int IntKind.u8 (X / 65536 % 256), Value.int IntKind.u8 (X / 16777216)] 5))
            52 5 Try.underlying52 Try.underlying5 (w.heap.size + 1) 0 4 4 [X % 256, X / 256 % 256, X / 65536 % 256, X / 16777216] rfl (by
              intro i hi
              rw [World.cell?_alloc_at (hn := by simp)]
              match i, hi with
              | 0, _ => rfl
              | 1, _ => rfl
              | 2, _ => rfl
              | 3, _ => rfl) 9 Try.underlying9
  rw [show strOfNums [X % 256, X / 256 % 256, X / 65536 % 256, X / 16777216] = str (four X) from rfl] at hcv
  have h4 : ¬ 9223372036854775807 < s.size + (str (four X)).size := by rw [str_size]; simp [four]; omega
  go_enter Try.func44, Try.ntmps44
  go_wp2_with fail
  refine (sum_one _ s _ (by simp) hss).mono ?_
  rintro e w' ⟨rfl, rfl⟩
  rw [HX.out]
  go_wp2
  go_ret
  refine ⟨?_, ((Below.refl _ w).alloc (Nat.le_refl _) _).alloc (by simp) _⟩
  rw [HE.out, ← str_append]; rfl

/-- Sealed bytes without their check sum, or why none. -/
def opened (l : List UInt8) : List UInt8 × Int :=
  if l.length < 4 then ([], 10) else if sealed (l.take (l.length - 4)) = l then (l.take (l.length - 4), 0) else ([], 13)

theorem str_of (s : ByteArray) : str s.data.toList = s := by apply ByteArray.ext; simp [str]


theorem str_inj {l m : List UInt8} (h : str l = str m) : l = m := by
  have := congrArg (fun s => s.data.toList) h
  simpa [str_data] using this

theorem ext_str (s : ByteArray) (a b : Nat) : s.extract a b = str ((s.data.toList.drop a).take (b - a)) := by
  rw [← Lib.extract_data, str_of]

/-- The walk's word for the comparison of two strings. -/
theorem beq_toList (a b : ByteArray) : (a.toList == b.toList) = decide (a = b) := by
  rw [ByteArray.toList_eq, ByteArray.toList_eq, Bool.eq_iff_iff, beq_iff_eq, decide_eq_true_iff]
  exact ⟨fun h => by rw [← str_of a, ← str_of b, h], fun h => by rw [h]⟩

theorem opened_short (l : List UInt8) (h : l.length < 4) : opened l = ([], 10) := if_pos h
theorem opened_bad (l : List UInt8) (h : ¬ l.length < 4) (h' : sealed (l.take (l.length - 4)) ≠ l) : opened l = ([], 13) := by unfold opened; rw [if_neg h, if_neg h']
theorem opened_good (l : List UInt8) (h : ¬ l.length < 4) (h' : sealed (l.take (l.length - 4)) = l) : opened l = (l.take (l.length - 4), 0) := by unfold opened; rw [if_neg h, if_pos h']

set_option maxHeartbeats 400000 in
set_option maxRecDepth 100000 in
theorem open_any (s : ByteArray) (w : World) (hs : s.size ≤ 140737488351232) :
    Calls Try.prog 26 #[.string s] w fun e w' =>
      e = .returned (.tuple #[.string (str (opened s.data.toList).1), .int .i64 (opened s.data.toList).2]) ∧ Below w.heap.size w w' := by
  by_cases h4 : s.size < 4
  · rw [opened_short _ (by simpa using h4)]
    go_enter Try.func26, Try.ntmps26
    go_wp2
    go_ret2
    exact ⟨rfl, Below.refl _ _⟩
  · have e1 : s.extract 0 (s.size - 4) = str (s.data.toList.take (s.data.toList.length - 4)) := by rw [ext_str]; simp
    have E1 := Lib.hid e1; clear e1
    have hl : ¬ s.data.toList.length < 4 := by simpa using h4
    have HL := Lib.hid hl; clear hl
    go_enter Try.func26, Try.ntmps26
    go_wp2_with fail
    refine (seal_any _ _ (by simp; omega)).mono ?_
    rintro e w1 ⟨rfl, hb⟩
    rw [E1.out, str_data]
    obtain ⟨y, hy⟩ : ∃ y, y = str (sealed (s.data.toList.take (s.data.toList.length - 4))) := ⟨_, rfl⟩
    rw [← hy]
    have HY := Lib.hid hy; clear hy
    go_wp2
    · have h : (!y.toList == s.toList) = true := by assumption
      rw [beq_toList, HY.out, ← str_of s] at h
      go_ret2
      rw [opened_bad _ HL.out (by intro h'; rw [str_data] at h; rw [h'] at h; simp at h)]
      exact ⟨rfl, hb⟩
    · have h : (!y.toList == s.toList) = false := by assumption
      rw [beq_toList, HY.out, ← str_of s] at h
      go_ret2
      rw [opened_good _ HL.out (by simp only [Bool.not_eq_false', decide_eq_true_eq] at h; have := str_inj h; rw [str_data] at this; exact this)]
      exact ⟨rfl, hb⟩
end Go.Proofs.Ytmkcphelmgkipaa

namespace Go.Proofs.Ytmkcphelmgkipaa
open Go.RowKit

theorem Try.info5 : (Try.prog.info? 5).map (fun i => (i.zero, i.size, i.bytes)) = some (some (.int .u8 0), 1, 1) := by kernel_rfl

/-- Bytes as the cells that hold them. -/
def bvals (l : List UInt8) : List Value := l.map (fun c => Value.int .u8 (c.toNat : Int))
theorem bvals_append (l m : List UInt8) : bvals (l ++ m) = bvals l ++ bvals m := by simp [bvals]
theorem bvals_length (l : List UInt8) : (bvals l).length = l.length := by simp [bvals]
theorem byte_back (y : Int) (h0 : 0 ≤ y) (h1 : y < 256) : ((UInt8.ofNat y.toNat).toNat : Int) = y := by
  rw [UInt8.toNat_ofNat']; omega
theorem byte_val (y : Int) (h0 : 0 ≤ y) (h1 : y < 256) : Value.int .u8 y = Value.int .u8 ((UInt8.ofNat y.toNat).toNat : Int) := by
  rw [byte_back y h0 h1]

theorem strOfNums_bytes (l : List UInt8) : strOfNums (l.map fun c => (c.toNat : Int)) = str l := by
  unfold strOfNums str
  congr 2
  rw [List.map_map]
  conv => rhs; rw [← List.map_id l]
  apply List.map_congr_left
  intro c _
  simp

/-- A slice that the call owns, as a string. -/
theorem own_str {wr : World} {base n : Nat} {v : Value} {l : List UInt8} (h : wr.ownsRow base 5 1 v n (bvals l)) :
    Sem.run Try.prog (convert 52 9 v) wr = .ok (.string (str l)) wr := by
  have hlen : l.length = n := by have := h.1; rw [bvals_length] at this; omega
  rcases h.2 with ⟨rfl, hn⟩ | ⟨g, cap, cur, rfl, hg⟩
  · have : l = [] := List.length_eq_zero_iff.1 (by omega)
    subst this
    exact run_convert_bytes_nil (P := Try.prog) wr 52 5 Try.underlying52 Try.underlying5 0 0 9 Try.underlying9
  · rw [← strOfNums_bytes]
    refine run_convert_bytes_arg (P := Try.prog) wr 52 5 Try.underlying52 Try.underlying5 g 0 n cap _ (by simpa using hlen) ?_ 9 Try.underlying9
    intro i hi
    rw [Nat.zero_add, h.cellAt i (by omega)]
    simp [bvals, hlen, hi]

/-- A number as bytes, the lowest one first. -/
def bytesUp (x : Int) : Nat → List UInt8
  | 0 => []
  | k + 1 => bytesUp x k ++ [UInt8.ofNat (x / 256 ^ k % 256).toNat]
theorem bytesUp_length (x : Int) (k : Nat) : (bytesUp x k).length = k := by
  induction k with
  | zero => rfl
  | succ k ih => simp [bytesUp, ih]
theorem bytesUp_four (x : Int) (h0 : 0 ≤ x) (h1 : x < 4294967296) : bytesUp x 4 = four x := by
  have e : x / 16777216 % 256 = x / 16777216 := by omega
  simp [bytesUp, four, e]

set_option maxHeartbeats 400000 in
set_option maxRecDepth 100000 in
theorem four_any (x : Int) (h0 : 0 ≤ x) (h1 : x < 4294967296) (w : World) :
    Calls Try.prog 68 #[.int .u32 x] w fun e w' => e = .returned (.string (str (four x))) ∧ Below w.heap.size w w' := by
  obtain ⟨i0, hi, hz0, hz1, hz2⟩ := info_parts Try.info5
  have HF := Lib.hid (bytesUp_four x h0 h1)
  go_enter Try.func68, Try.ntmps68
  go_wp2
  go_loopw [0, 3, 4] (fun y v i wr => ∃ k : Nat, k ≤ 4 ∧ i = .int .i64 k ∧ y = .int .u32 (x / 256 ^ k) ∧ wr.ownsRow w.heap.size 5 1 v k (bvals (bytesUp x k)) ∧ Below w.heap.size w wr)
     (fun _ _ i _ => 4 - (intOf i).toNat)
  case atStart => exact ⟨0, by omega, rfl, by simp, World.ownsRow_nil _ _ _ _, Below.refl _ _⟩
  case round =>
    obtain ⟨k, hk, rfl, rfl, hown, hB⟩ := hrel
    have hy0 : 0 ≤ x / 256 ^ k := Int.ediv_nonneg h0 (Int.pow_nonneg (by omega))
    have hy1 : x / 256 ^ k ≤ x := Int.ediv_le_self _ h0
    by_cases hlt : k < 4
    · have hup : bytesUp x (k + 1) = bytesUp x k ++ [UInt8.ofNat (x / 256 ^ k % 256).toNat] := rfl
      have HU := Lib.hid hup; clear hup
      have hdv : x / 256 ^ k / 256 = x / 256 ^ (k + 1) := by rw [Int.pow_succ, Int.ediv_ediv_of_nonneg (Int.pow_nonneg (by omega))]
      have HD := Lib.hid hdv; clear hdv
      generalize hY : x / 256 ^ k = y at *
      have HY := Lib.hid hY; clear hY
      go_wp2_with (at_builtin; refine wpList_append_own _ rfl _ _ 52 rfl w.heap.size 5 i0 (.int .u8 0) 1 1 Try.underlying52 hi hz0 hz1 hz2 rfl (by decide) _ _ _ rfl (hown.alloc _) ⟨wr.heap.size, 0, none⟩ 1 1 [.int .u8 (y % 256)] rfl rfl ?c1 ?c2 ?c3 ?c4 ?c5 ?_)
      case c1 => exact cell_one_new _ _ _
      case c2 => intro u hu; simp at hu; subst hu; rfl
      case c3 => unfold maxLen; omega
      case c4 => omega
      case c5 => have := hB.size; simp; omega
      intro v' w1 hown' hgrow _
      have hB' := (hB.alloc (hB.size) (.cells #[.int .u8 (y % 256)] 5)).grown hgrow (by have := hB.size; simp; omega) (fun j hj => (hown.lt j hj).1)
      go_wp2
      go_roundw
      case rel => 
        refine ⟨k + 1, by omega, by go_num, by rw [HD.out], ?_, hB'⟩
        rw [HU.out, bvals_append]
        rw [byte_val (y % 256) (by omega) (by omega)] at hown'
        exact hown'
      case measure => simp [intOf]; omega
    · obtain rfl : k = 4 := by omega
      rw [HF.out] at hown
      have hcv := own_str hown
      go_wp2
      go_ret
      exact ⟨rfl, hB⟩
end Go.Proofs.Ytmkcphelmgkipaa

namespace Go.Proofs.Ytmkcphelmgkipaa
open Go.RowKit
attribute [local go_sem ↓] Go.wp_at_zero Go.wp_at_succ

theorem ret_int {k : IntKind} {a b : Int} (h : a = b) : Ending.returned (.int k a) = .returned (.int k b) := by rw [h]

set_option maxHeartbeats 400000 in
set_option maxRecDepth 100000 in
theorem rmore_any (s : ByteArray) (w : World) (hs : s.size ≤ maxLen) :
    Calls Try.prog 69 #[.int .u32 0, .string s] w fun e w' => e = .returned (.int .u32 (sumOf s.data.toList)) ∧ w = w' := by
  unfold maxLen at hs
  have HF : Hid (sumOf s.data.toList = 4294967295 - crcs 4294967295 s.data.toList) := rfl
  go_enter Try.func69, Try.ntmps69
  go_wp2
  go_loop [5, 6] (fun x i => ∃ j : Nat, j ≤ s.size ∧ i = .int .i64 j ∧ x = .int .u32 (crcs 4294967295 (s.data.toList.take j))) (fun _ i => s.size - (intOf i).toNat)
  case atStart => exact ⟨0, by omega, rfl, rfl⟩
  case round =>
    obtain ⟨j, hj, rfl, rfl⟩ := hrel
    have hy := crcs_bd 4294967295 (s.data.toList.take j) (by omega) (by omega)
    by_cases hjt : j < s.size
    · have hb := UInt8.toNat_lt s[j]
      have HT := Lib.hid (take_snoc s j hjt)
      generalize hX : crcs 4294967295 (s.data.toList.take j) = X at *
      have HX := Lib.hid hX; clear hX
      have hz := xr_bd X (s[j].toNat : Int) hy.1 hy.2 (by omega) (by omega)
      go_wp2
      go_loop [5, 7, 8] (fun y i _ => ∃ k : Nat, k ≤ 8 ∧ i = .int .i64 k ∧ y = .int .u32 (stps k (xr X s[j].toNat))) (fun _ i _ => 8 - (intOf i).toNat)
      case atStart => exact ⟨0, by omega, rfl, rfl⟩
      case round =>
        obtain ⟨k, hk, rfl, rfl⟩ := hrel
        have hs := stps_bd k _ hz.1 hz.2
        by_cases hlt : k < 8
        · have HS := Lib.hid (stps_succ k (xr X s[j].toNat))
          generalize hZ : stps k (xr X s[j].toNat) = z at *
          have HZ := Lib.hid hZ; clear hZ
          have HE := Lib.hid (stp_eq z hs.1 hs.2)
          by_cases hodd : z % 2 = 1
          · go_wp2
            go_round
            case rel => exact ⟨k + 1, by omega, by go_num, by rw [HS.out, HE.out, if_pos hodd]; rfl⟩
            case measure => simp [intOf]; omega
          · go_wp2
            go_round
            case rel => exact ⟨k + 1, by omega, by go_num, by rw [HS.out, HE.out, if_neg hodd]⟩
            case measure => simp [intOf]; omega
        · obtain rfl : k = 8 := by omega
          go_wp2
          go_round
          case rel => exact ⟨j + 1, by omega, by go_num, by rw [HT.out, crcs_snoc, HX.out]; rfl⟩
          case measure => simp [intOf]; omega
    · obtain rfl : j = s.size := by omega
      go_wp2
      go_ret
      exact ⟨by rw [HF.out]; exact ret_int (by rw [List.take_of_length_le (by simp)]), rfl⟩

theorem opened_iff (l : List UInt8) : four (sumOf (l.take (l.length - 4))) = l.drop (l.length - 4) ↔ l = sealed (l.take (l.length - 4)) := by
  unfold sealed
  constructor
  · intro h; rw [h]; simp
  · intro h
    have := congrArg (List.drop (l.length - 4)) h
    rw [this]
    simp

theorem ext_end (s : ByteArray) (j : Nat) : s.extract j s.size = str (s.data.toList.drop j) := by
  rw [ext_str, List.take_of_length_le (by simp)]

theorem below_drew {w w' : World} (h : Below w.drew.heap.size w.drew w') : Below w.heap.size w w' := (Below.refl _ w).drew.trans h

theorem ropen_bad (s : ByteArray) (i j : Nat) (h : (!(str (four (sumOf (List.take i s.data.toList)))).toList == (s.extract j s.size).toList) = true) (hi : i = s.size - 4) (hj : j = s.size - 4) (h4 : ¬ s.size < 4) :
    opened s.data.toList = ([], 13) := by
  subst hi hj
  have hsz : s.data.toList.length = s.size := by simp
  refine opened_bad _ (by rw [hsz]; exact h4) (fun h' => ?_)
  rw [eq_comm, ← opened_iff, hsz] at h'
  rw [beq_toList, ext_end, h'] at h
  simp at h

theorem ropen_good (s : ByteArray) (i j : Nat) (h : (!(str (four (sumOf (List.take i s.data.toList)))).toList == (s.extract j s.size).toList) = false) (hi : i = s.size - 4) (hj : j = s.size - 4) (h4 : ¬ s.size < 4) :
    opened s.data.toList = (s.data.toList.take (s.size - 4), 0) := by
  subst hi hj
  have hsz : s.data.toList.length = s.size := by simp
  rw [beq_toList, ext_end] at h
  simp only [Bool.not_eq_false', decide_eq_true_eq] at h
  have h2 := str_inj h
  rw [← hsz, opened_iff] at h2
  rw [opened_good _ (by rw [hsz]; exact h4) h2.symm, hsz]

set_option maxHeartbeats 400000 in
set_option maxRecDepth 100000 in
theorem ropen_any (s : ByteArray) (w : World) (hs : s.size ≤ 140737488351232) :
    Calls Try.prog 34 #[.string s] w fun e w' =>
      e = .returned (.tuple #[.string (str (opened s.data.toList).1), .int .i64 (opened s.data.toList).2]) ∧ Below w.heap.size w w' := by
  by_cases h4 : s.size < 4
  · rw [opened_short _ (by simpa using h4)]
    go_enter Try.func34, Try.ntmps34
    go_wp2
    go_ret2
    exact ⟨rfl, Below.refl _ _⟩
  · have hl : ¬ s.data.toList.length < 4 := by simpa using h4
    have HL := Lib.hid hl; clear hl
    have b1 : (0 : Int) ≤ (s.size : Int) - 4 := by omega
    have b2 : (s.size : Int) - 4 ≤ (s.size : Int) := by omega
    go_enter Try.func34, Try.ntmps34
    go_wp2
    go_region_with (first | (go_at_call 69; refine (rmore_any _ _ ?_).mono ?_; (simp [maxLen]; omega); rintro e w' ⟨rfl, rfl⟩) | (go_at_call 68; refine (four_any _ (sumOf_bd _).1 (sumOf_bd _).2 _).mono ?_; rintro e w' ⟨rfl, hb⟩))
    all_goals go_wp2
    all_goals go_ret2
    all_goals first
      | (have h := ropen_bad s _ _ (by assumption) (by omega) (by omega) h4; rw [h]; exact ⟨rfl, below_drew hb⟩)
      | (have h := ropen_good s _ _ (by assumption) (by omega) (by omega) h4; rw [h, ext_str]; exact ⟨by simp, below_drew hb⟩)
end Go.Proofs.Ytmkcphelmgkipaa

/- Plain functions on numbers and lists: numbers and texts as bytes. -/
namespace Go.Proofs.Ytmkcphelmgkipaa
open Go.RowKit

/-- How many bytes a number needs. -/
def vsz (x : Nat) : Nat :=
  if x < 128 then 1 else if x < 16384 then 2 else if x < 2097152 then 3 else if x < 268435456 then 4 else if x < 34359738368 then 5
  else if x < 4398046511104 then 6 else if x < 562949953421312 then 7 else if x < 72057594037927936 then 8 else 9

theorem vsz_bd (x : Nat) : 1 ≤ vsz x ∧ vsz x ≤ 9 := by unfold vsz; repeat' split
                                                       all_goals omega

theorem bitLen_le_iff (x k : Nat) (hk : k ≤ 64) (hx : x < 2 ^ 64) : Lib.bitLen x ≤ k ↔ x < 2 ^ k := by
  constructor
  · intro h
    by_cases h0 : x = 0
    · subst h0; exact Nat.two_pow_pos k
    · have hb := (Lib.bitLenAux_bounds 64 x hx h0).2.2
      exact Nat.lt_of_lt_of_le hb (Nat.pow_le_pow_right (by omega) h)
  · exact fun h => Lib.bitLen_le x k hk h

theorem vsz_eq (x : Nat) (hx : x < 18446744073709551616) : min (max ((Lib.bitLen x + 6) / 7) 1) 9 = vsz x := by
  have h7 := bitLen_le_iff x 7 (by omega) (by simpa using hx)
  have h14 := bitLen_le_iff x 14 (by omega) (by simpa using hx)
  have h21 := bitLen_le_iff x 21 (by omega) (by simpa using hx)
  have h28 := bitLen_le_iff x 28 (by omega) (by simpa using hx)
  have h35 := bitLen_le_iff x 35 (by omega) (by simpa using hx)
  have h42 := bitLen_le_iff x 42 (by omega) (by simpa using hx)
  have h49 := bitLen_le_iff x 49 (by omega) (by simpa using hx)
  have h56 := bitLen_le_iff x 56 (by omega) (by simpa using hx)
  simp only [Nat.reducePow] at h7 h14 h21 h28 h35 h42 h49 h56
  generalize Lib.bitLen x = b at *
  unfold vsz
  repeat' split
  all_goals omega

/-- So many bytes of a number, the high one first. -/
def be (x : Nat) : Nat → List UInt8
  | 0 => []
  | n + 1 => UInt8.ofNat (x / 256 ^ n % 256) :: be x n
theorem be_length (x n : Nat) : (be x n).length = n := by induction n <;> simp [be, *]

/-- The bits of a first byte that tell that there are n bytes. -/
def hd (n : Nat) : Nat := 256 - 2 ^ (9 - n)

/-- A number in few bytes. -/
def vr (x : Nat) : List UInt8 := UInt8.ofNat (hd (vsz x) + x / 256 ^ (vsz x - 1)) :: be x (vsz x - 1)
theorem vr_length (x : Nat) : (vr x).length = vsz x := by
  have := vsz_bd x
  simp [vr, be_length]; omega

/-- A text: how many bytes there are, and these. -/
def txt (l : List UInt8) : List UInt8 := vr l.length ++ l

end Go.Proofs.Ytmkcphelmgkipaa

/-
  DERIVED: THE SHELF's CONTRACTS AT THIS DUMP, IN PLAIN WORDS (tools/lay-plain.mjs out of 'TryShelf.lean', which tools/lay-shelf.mjs wrote): THE SAME DECLARATIONS UNDER THE SAME NAMES: 'import', 'namespace', 'open', 'def', 'theorem' AND NOTHING ELSE: no command of the shelf's: FOR A HAND-IN. Each laying: the table of numbers ('.._ren') and one theorem, a field a fact of the dump's own or the kernel's comparison; each contract: ONE APPLICATION.
-/
namespace Go.Proofs
open Go.Shelf
def Try.lays126_ren : Go.Shelf.Ren := ⟨fun | 126 => 98 | n => n, fun | 5 => 5 | 3 => 3 | 9 => 9 | n => n, fun | n => n⟩
theorem Try.lays126 : Go.Proofs.Lays.n126 Try.prog Try.lays126_ren := {
  mixed := by kernel_rfl
  f126 := Try.func98.trans (congrArg some (by kernel_rfl))
  t3 := Try.underlying3
  a3 := Try.isAgg3
  z3 := Try.sizeOf3
  v3 := Try.zeroValue3
  t5 := Try.underlying5
  a5 := Try.isAgg5
  z5 := Try.sizeOf5
  v5 := Try.zeroValue5
  t9 := Try.underlying9
  a9 := Try.isAgg9
  z9 := Try.sizeOf9
  v9 := Try.zeroValue9 }
/-- bits.Len8: "Len8 returns the minimum number of bits required to represent x; the result is 0 for x == 0.": IT RETURNS 'Lib.bitLen x'; the world is as it was. ('h0', 'h1': x is a uint8.) (LAID: no walk: one application.) -/
theorem Try.bits_Len8 (x : Int) (w : World) (h0 : 0 ≤ x) (h1 : x ≤ 255) :
    Calls Try.prog 98 #[.int .u8 x] w fun e w' => e = .returned (.int .i64 (Lib.bitLen x.toNat)) ∧ w' = w := Any.bits_Len8 Try.lays126 x w h0 h1
def Try.lays128_ren : Go.Shelf.Ren := ⟨fun | 128 => 97 | n => n, fun | 51 => 112 | 3 => 3 | 4 => 4 | 46 => 123 | 5 => 5 | 9 => 9 | n => n, fun | n => n⟩
theorem Try.lays128 : Go.Proofs.Lays.n128 Try.prog Try.lays128_ren := {
  mixed := by kernel_rfl
  f128 := Try.func97.trans (congrArg some (by kernel_rfl))
  t3 := Try.underlying3
  a3 := Try.isAgg3
  z3 := Try.sizeOf3
  v3 := Try.zeroValue3
  t4 := Try.underlying4
  a4 := Try.isAgg4
  z4 := Try.sizeOf4
  v4 := Try.zeroValue4
  t5 := Try.underlying5
  a5 := Try.isAgg5
  z5 := Try.sizeOf5
  v5 := Try.zeroValue5
  t9 := Try.underlying9
  a9 := Try.isAgg9
  z9 := Try.sizeOf9
  v9 := Try.zeroValue9
  t46 := Try.underlying123
  a46 := Try.isAgg123
  z46 := Try.sizeOf123
  v46 := Try.zeroValue123
  t51 := Try.underlying112
  a51 := Try.isAgg112
  z51 := Try.sizeOf112
  v51 := Try.zeroValue112 }
/-- bits.Len32: "Len32 returns the minimum number of bits required to represent x; the result is 0 for x == 0.": IT RETURNS 'Lib.bitLen x'; the world is as it was. ('h0', 'h1': x is a uint32.) (LAID: no walk: one application.) -/
theorem Try.bits_Len32 (x : Int) (w : World) (h0 : 0 ≤ x) (h1 : x ≤ 4294967295) :
    Calls Try.prog 97 #[.int .u32 x] w fun e w' => e = .returned (.int .i64 (Lib.bitLen x.toNat)) ∧ w' = w := Any.bits_Len32 Try.lays128 x w h0 h1
def Try.lays125_ren : Go.Shelf.Ren := ⟨fun | 125 => 79 | 128 => 97 | 129 => 87 | n => n, fun | 46 => 123 | 3 => 3 | 51 => 112 | 53 => 24 | 4 => 4 | 5 => 5 | 9 => 9 | n => n, fun | n => n⟩
theorem Try.lays125 : Go.Proofs.Lays.n125 Try.prog Try.lays125_ren := {
  mixed := by kernel_rfl
  f125 := Try.func79.trans (congrArg some (by kernel_rfl))
  f128 := Try.func97.trans (congrArg some (by kernel_rfl))
  f129 := Try.func87.trans (congrArg some (by kernel_rfl))
  t3 := Try.underlying3
  a3 := Try.isAgg3
  z3 := Try.sizeOf3
  v3 := Try.zeroValue3
  t4 := Try.underlying4
  a4 := Try.isAgg4
  z4 := Try.sizeOf4
  v4 := Try.zeroValue4
  t5 := Try.underlying5
  a5 := Try.isAgg5
  z5 := Try.sizeOf5
  v5 := Try.zeroValue5
  t9 := Try.underlying9
  a9 := Try.isAgg9
  z9 := Try.sizeOf9
  v9 := Try.zeroValue9
  t46 := Try.underlying123
  a46 := Try.isAgg123
  z46 := Try.sizeOf123
  v46 := Try.zeroValue123
  t51 := Try.underlying112
  a51 := Try.isAgg112
  z51 := Try.sizeOf112
  v51 := Try.zeroValue112
  t53 := Try.underlying24
  a53 := Try.isAgg24
  z53 := Try.sizeOf24
  v53 := Try.zeroValue24 }
/-- bits.Len: "Len returns the minimum number of bits required to represent x; the result is 0 for x == 0.": IT RETURNS 'Lib.bitLen x'; the world is as it was. (A uint has 64 bits in the model.) ITS CALLEE bits.Len64 IS MET BY ITS OWN CONTRACT OFF THE SHELF (lay that first). (LAID: no walk: one application.) -/
theorem Try.bits_Len (x : Int) (w : World) (h0 : 0 ≤ x) (h1 : x ≤ 18446744073709551615) :
    Calls Try.prog 79 #[.int .u64 x] w fun e w' => e = .returned (.int .i64 (Lib.bitLen x.toNat)) ∧ w' = w := Any.bits_Len Try.lays125 x w h0 h1
def Try.lays131_ren : Go.Shelf.Ren := ⟨fun | 131 => 82 | 126 => 98 | n => n, fun | 5 => 5 | 3 => 3 | 9 => 9 | n => n, fun | n => n⟩
theorem Try.lays131 : Go.Proofs.Lays.n131 Try.prog Try.lays131_ren := {
  mixed := by kernel_rfl
  f126 := Try.func98.trans (congrArg some (by kernel_rfl))
  f131 := Try.func82.trans (congrArg some (by kernel_rfl))
  t3 := Try.underlying3
  a3 := Try.isAgg3
  z3 := Try.sizeOf3
  v3 := Try.zeroValue3
  t5 := Try.underlying5
  a5 := Try.isAgg5
  z5 := Try.sizeOf5
  v5 := Try.zeroValue5
  t9 := Try.underlying9
  a9 := Try.isAgg9
  z9 := Try.sizeOf9
  v9 := Try.zeroValue9 }
/-- bits.LeadingZeros8: "LeadingZeros8 returns the number of leading zero bits in x; the result is 8 for x == 0.": IT RETURNS '8 - Lib.bitLen x'; the world is as it was. ITS CALLEE bits.Len8 IS MET BY ITS OWN CONTRACT OFF THE SHELF (lay that first): ENTERED IN PLACE it sends the kernel out of memory. (LAID: no walk: one application.) -/
theorem Try.bits_LeadingZeros8 (x : Int) (w : World) (h0 : 0 ≤ x) (h1 : x ≤ 255) :
    Calls Try.prog 82 #[.int .u8 x] w fun e w' => e = .returned (.int .i64 (8 - (Lib.bitLen x.toNat : Int))) ∧ w' = w := Any.bits_LeadingZeros8 Try.lays131 x w h0 h1
def Try.lays129_ren : Go.Shelf.Ren := ⟨fun | 129 => 87 | n => n, fun | 53 => 24 | 3 => 3 | 4 => 4 | 46 => 123 | 5 => 5 | 9 => 9 | n => n, fun | n => n⟩
theorem Try.lays129 : Go.Proofs.Lays.n129 Try.prog Try.lays129_ren := {
  mixed := by kernel_rfl
  f129 := Try.func87.trans (congrArg some (by kernel_rfl))
  t3 := Try.underlying3
  a3 := Try.isAgg3
  z3 := Try.sizeOf3
  v3 := Try.zeroValue3
  t4 := Try.underlying4
  a4 := Try.isAgg4
  z4 := Try.sizeOf4
  v4 := Try.zeroValue4
  t5 := Try.underlying5
  a5 := Try.isAgg5
  z5 := Try.sizeOf5
  v5 := Try.zeroValue5
  t9 := Try.underlying9
  a9 := Try.isAgg9
  z9 := Try.sizeOf9
  v9 := Try.zeroValue9
  t46 := Try.underlying123
  a46 := Try.isAgg123
  z46 := Try.sizeOf123
  v46 := Try.zeroValue123
  t53 := Try.underlying24
  a53 := Try.isAgg24
  z53 := Try.sizeOf24
  v53 := Try.zeroValue24 }
/-- bits.Len64: "Len64 returns the minimum number of bits required to represent x; the result is 0 for x == 0.": IT RETURNS 'Lib.bitLen x'; the world is as it was. ('h0', 'h1': x is a uint64.) (LAID: no walk: one application.) -/
theorem Try.bits_Len64 (x : Int) (w : World) (h0 : 0 ≤ x) (h1 : x ≤ 18446744073709551615) :
    Calls Try.prog 87 #[.int .u64 x] w fun e w' => e = .returned (.int .i64 (Lib.bitLen x.toNat)) ∧ w' = w := Any.bits_Len64 Try.lays129 x w h0 h1
def Try.lays206_ren : Go.Shelf.Ren := ⟨fun | 206 => 55 | n => n, fun | 9 => 9 | 4 => 4 | 3 => 3 | n => n, fun | n => n⟩
theorem Try.lays206 : Go.Proofs.Lays.n206 Try.prog Try.lays206_ren := {
  mixed := by kernel_rfl
  f206 := Try.func55.trans (congrArg some (by kernel_rfl))
  t3 := Try.underlying3
  a3 := Try.isAgg3
  z3 := Try.sizeOf3
  v3 := Try.zeroValue3
  t4 := Try.underlying4
  a4 := Try.isAgg4
  z4 := Try.sizeOf4
  v4 := Try.zeroValue4
  t9 := Try.underlying9
  a9 := Try.isAgg9
  z9 := Try.sizeOf9
  v9 := Try.zeroValue9 }
open Go.RowKit Go.Lib in
/-- internal/stringslite.HasPrefix (what strings.HasPrefix calls). (LAID: no walk: one application.) -/
theorem Try.stringslite_HasPrefix (s p : ByteArray) (w : World) :
    Calls Try.prog 55 #[.string s, .string p] w fun e w' => e = .returned (.bool (Lib.hasPrefix s.data.toList p.data.toList)) ∧ w' = w := Any.stringslite_HasPrefix Try.lays206 s p w
def Try.lays99_ren : Go.Shelf.Ren := ⟨fun | 99 => 27 | 206 => 55 | n => n, fun | 9 => 9 | 4 => 4 | 3 => 3 | n => n, fun | n => n⟩
theorem Try.lays99 : Go.Proofs.Lays.n99 Try.prog Try.lays99_ren := {
  mixed := by kernel_rfl
  f99 := Try.func27.trans (congrArg some (by kernel_rfl))
  f206 := Try.func55.trans (congrArg some (by kernel_rfl))
  t3 := Try.underlying3
  a3 := Try.isAgg3
  z3 := Try.sizeOf3
  v3 := Try.zeroValue3
  t4 := Try.underlying4
  a4 := Try.isAgg4
  z4 := Try.sizeOf4
  v4 := Try.zeroValue4
  t9 := Try.underlying9
  a9 := Try.isAgg9
  z9 := Try.sizeOf9
  v9 := Try.zeroValue9 }
open Go.RowKit Go.Lib in
/-- strings.HasPrefix: "HasPrefix reports whether the string s begins with prefix.": IT RETURNS 'Lib.hasPrefix s prefix'; the world is as it was. (LAID: no walk: one application.) -/
theorem Try.strings_HasPrefix (s p : ByteArray) (w : World) :
    Calls Try.prog 27 #[.string s, .string p] w fun e w' => e = .returned (.bool (Lib.hasPrefix s.data.toList p.data.toList)) ∧ w' = w := Any.strings_HasPrefix Try.lays99 s p w
end Go.Proofs

namespace Go.Proofs.Ytmkcphelmgkipaa
open Go.RowKit

set_option maxHeartbeats 400000 in
set_option maxRecDepth 100000 in
theorem size_any (x : Int) (h0 : 0 ≤ x) (h1 : x < 18446744073709551616) (w : World) :
    Calls Try.prog 73 #[.int .u64 x] w fun e w' => e = .returned (.int .i64 (vsz x.toNat)) ∧ w = w' := by
  have hb : Lib.bitLen x.toNat ≤ 64 := Lib.bitLen_le _ 64 (by omega) (by omega)
  have HV := Lib.hid (vsz_eq x.toNat (by omega))
  have HL := Lib.hid (Try.bits_Len64 x w h0 (by omega))
  generalize Lib.bitLen x.toNat = b at *
  go_enter Try.func73, Try.ntmps73
  go_wp2_with (go_at_call 87; refine HL.out.mono ?_; rintro e w' ⟨rfl, rfl⟩)
  go_ret
  exact ⟨ret_int (by have := HV.out; show min (max (((b : Int) + 7 - 1) / 7) 1) 9 = _; omega), rfl⟩

theorem head_val : ∀ n : Fin 10, 1 ≤ n.val → bits BinOp.xor IntKind.u8 IntKind.u8.max (255 / 2 ^ (n.val - 1)) = (hd n.val : Int) := by decide +kernel

set_option maxHeartbeats 400000 in
set_option maxRecDepth 100000 in
theorem head_any (n : Nat) (h0 : 1 ≤ n) (h1 : n ≤ 9) (w : World) :
    Calls Try.prog 74 #[.int .i64 n] w fun e w' => e = .returned (.int .u8 (hd n)) ∧ w = w' := by
  go_enter Try.func74, Try.ntmps74
  go_wp2
  go_ret
  exact ⟨ret_int (head_val ⟨n, by omega⟩ h0), rfl⟩

/-- The bytes written so far: the place o holds the slice v, which owns them. -/
def OutAt (w : World) (o : Nat) (v : Value) (l : List UInt8) : Prop :=
  w.heap[o]? = some (.cells #[v] 85 (0, 0)) ∧ w.ownsRow (o + 1) 5 1 v l.length (bvals l)

/-- From w to w' the place o alone was written on, and the row of v, and new blocks. -/
structure OutTo (w w' : World) (o : Nat) (v : Value) : Prop where
  os : w'.os = w.os
  tape : w'.tape = w.tape
  output : w'.output = w.output
  size : w.heap.size ≤ w'.heap.size
  block : ∀ k, k < w.heap.size → k ≠ o → some k ≠ v.ownBlock → w'.heap[k]? = w.heap[k]?

def Stays (w : World) (v v' : Value) : Prop := v'.ownBlock = v.ownBlock ∨ ∃ g, v'.ownBlock = some g ∧ w.heap.size ≤ g

theorem OutTo.refl (w : World) (o : Nat) (v : Value) : OutTo w w o v := ⟨rfl, rfl, rfl, Nat.le_refl _, fun _ _ _ _ => rfl⟩

theorem OutTo.trans {a b c : World} {o : Nat} {v v' : Value} (h : OutTo a b o v) (k : OutTo b c o v') (hs : Stays a v v') : OutTo a c o v :=
  ⟨k.os.trans h.os, k.tape.trans h.tape, k.output.trans h.output, Nat.le_trans h.size k.size, fun i hi h1 h2 =>
    (k.block i (by have := h.size; omega) h1 (by
      rcases hs with e | ⟨g, e, hg⟩
      · rw [e]; exact h2
      · rw [e]; intro e'; cases e'; omega)).trans (h.block i hi h1 h2)⟩

theorem Stays.refl (w : World) (v : Value) : Stays w v v := .inl rfl
theorem Stays.trans {a b : World} {v v' v'' : Value} (h : Stays a v v') (k : Stays b v' v'') (hs : a.heap.size ≤ b.heap.size) : Stays a v v'' := by
  rcases k with e | ⟨g, e, hg⟩
  · rcases h with e' | ⟨g, e', hg⟩
    · exact .inl (e.trans e')
    · exact .inr ⟨g, e.trans e', hg⟩
  · exact .inr ⟨g, e, by omega⟩

theorem OutTo.below {a b : World} {o : Nat} {v : Value} (h : OutTo a b o v) (hv : ∀ k, v.ownBlock = some k → o < k) (ho : o < a.heap.size) : Below o a b :=
  ⟨h.os, h.tape, h.output, h.size, fun k hk => h.block k (by omega) (by omega) (fun e => by have := hv k e.symm; omega)⟩

theorem OutAt.lt {w : World} {o : Nat} {v : Value} {l : List UInt8} (h : OutAt w o v l) : o < w.heap.size := (Array.getElem?_eq_some_iff.1 h.1).1
theorem OutAt.own {w : World} {o : Nat} {v : Value} {l : List UInt8} (h : OutAt w o v l) : ∀ k, v.ownBlock = some k → o < k := fun k e => (h.2.lt k e).1
theorem OutAt.own_lt {w : World} {o : Nat} {v : Value} {l : List UInt8} (h : OutAt w o v l) : ∀ k, v.ownBlock = some k → k < w.heap.size := fun k e => (h.2.lt k e).2

theorem OutAt.cell {w : World} {o : Nat} {v : Value} {l : List UInt8} (h : OutAt w o v l) : w.cell? ⟨o, 0, none⟩ = some v := by simp [World.cell?, h.1]
theorem OutAt.frozen {w : World} {o : Nat} {v : Value} {l : List UInt8} (h : OutAt w o v l) : w.frozen? ⟨o, 0, none⟩ = false := by simp [World.frozen?, h.1]

/-- Behind an append, and the store of what it gave. -/
theorem out_append {w wm w1 : World} {o : Nat} {v v' : Value} {l m : List UInt8} {n : Nat} (h : OutAt w o v l) (hm : Below w.heap.size w wm) (hn : n = (l ++ m).length)
    (hown : w1.ownsRow (o + 1) 5 1 v' n (bvals (l ++ m))) (hg : wm.grownBy w1 v.ownBlock) :
    w1.cell? ⟨o, 0, none⟩ = some v ∧ w1.frozen? ⟨o, 0, none⟩ = false ∧ OutAt (w1.setCell ⟨o, 0, none⟩ v') o v' (l ++ m) ∧ OutTo w (w1.setCell ⟨o, 0, none⟩ v') o v := by
  have ho := h.lt
  have hw1 : w1.heap[o]? = some (.cells #[v] 85 (0, 0)) := by
    rw [hg.block o (by have := hm.size; omega) (fun e => by have := h.own o e.symm; omega), hm.block o ho]; exact h.1
  refine ⟨by simp [World.cell?, hw1], by simp [World.frozen?, hw1], ⟨?_, ?_⟩, ?_⟩
  · simp only [World.setCell, Array.getElem?_modify, if_pos]
    rw [hw1]; rfl
  · subst hn
    refine ⟨hown.1, ?_⟩
    rcases hown.2 with e | ⟨g, cap, cur, e1, e2, e3, e4⟩
    · exact .inl e
    · refine .inr ⟨g, cap, cur, e1, e2, ?_, e4⟩
      rw [Below.heap_setCell _ _ _ _ (by show g ≠ o; omega)]; exact e3
  · refine ⟨hg.os.trans hm.os, hg.tape.trans hm.tape, hg.output.trans hm.output, ?_, fun k hk h1 h2 => ?_⟩
    · have := hg.size; have := hm.size; simp [World.setCell]; omega
    · rw [Below.heap_setCell _ _ _ _ h1, hg.block k (by have := hm.size; omega) h2, hm.block k hk]

theorem stays_of {w : World} {v v' : Value} {n : Nat} (h : v'.ownBlock = v.ownBlock ∨ v'.ownBlock = some n) (hs : w.heap.size ≤ n) : Stays w v v' := by
  rcases h with e | e
  · exact .inl e
  · exact .inr ⟨_, e, hs⟩

theorem owns_form {w : World} {base e size n : Nat} {v : Value} {xs : List Value} (h : w.ownsRow base e size v n xs) (hn : n ≠ 0) : ∃ g cap, v = .slice (some ⟨g, 0, none⟩) n cap := by
  rcases h.2 with ⟨_, e⟩ | ⟨g, cap, cur, e1, _⟩
  · exact absurd e hn
  · exact ⟨g, cap, e1⟩

set_option maxHeartbeats 400000 in
set_option maxRecDepth 100000 in
theorem put_any (o n : Nat) (x : Int) (v : Value) (l : List UInt8) (h0 : 0 ≤ x) (h1 : x < 18446744073709551616) (hn : n ≤ 8) (hl : l.length ≤ 70368744177664) (w : World) (hO : OutAt w o v l) :
    Calls Try.prog 72 #[.pointer (some ⟨o, 0, none⟩), .int .u64 x, .int .i64 n] w fun e w' => e = .returned (.tuple #[]) ∧
      ∃ v', OutAt w' o v' (l ++ be x.toNat n) ∧ OutTo w w' o v ∧ Stays w v v' := by
  obtain ⟨i0, hi, hz0, hz1, hz2⟩ := info_parts Try.info5
  go_enter Try.func72, Try.ntmps72
  go_wp2
  go_loopw [6] (fun i wr => ∃ (k : Nat) (pre : List UInt8) (u : Value), k ≤ n ∧ i = .int .i64 ((k : Int) - 1) ∧ pre ++ be x.toNat k = be x.toNat n ∧ OutAt wr o u (l ++ pre) ∧ OutTo w wr o v ∧ Stays w v u)
    (fun i _ => (intOf i + 1).toNat)
  case atStart => exact ⟨n, [], v, Nat.le_refl _, rfl, rfl, by simpa using hO, OutTo.refl _ _ _, Stays.refl _ _⟩
  case round =>
    obtain ⟨k, pre, u, hk, rfl, hpre, hu, hto, hst⟩ := hrel
    have HP := Lib.hid hpre; clear hpre
    cases k with
    | zero =>
      go_wp2
      go_end0
      have := HP.out
      simp only [be, List.append_nil] at this
      rw [this] at hu
      exact ⟨rfl, u, hu, hto, hst⟩
    | succ k =>
      have e : ((k + 1 : Nat) : Int) - 1 = k := by omega
      rw [e]; clear e
      have hc := hu.cell
      have hplen : pre.length + (k + 1) = n := by have := congrArg List.length HP.out; simpa [be_length] using this
      have hy0 : 0 ≤ x / 2 ^ (8 * k) := Int.ediv_nonneg h0 (Int.pow_nonneg (by omega))
      have HB : Hid (be x.toNat (k + 1) = UInt8.ofNat (x / 2 ^ (8 * k) % 256).toNat :: be x.toNat k) := by
        obtain ⟨y, rfl⟩ := Int.eq_ofNat_of_zero_le h0
        have e2 : ((2 : Int) ^ (8 * k)) = ((256 ^ k : Nat) : Int) := by rw [Int.pow_mul]; simp
        show UInt8.ofNat _ :: _ = _
        rw [e2]
        congr 2
      go_wp2_with (at_builtin; refine wpList_append_own_at _ rfl _ _ 52 rfl (o + 1) 5 i0 (.int .u8 0) 1 1 Try.underlying52 hi hz0 hz1 hz2 rfl (by decide) _ _ _ rfl (hu.2.alloc _) ⟨wr.heap.size, 0, none⟩ 1 1 [.int .u8 (x / 2 ^ (8 * k) % 256)] rfl rfl ?c1 ?c2 ?c3 ?c4 ?c5 ?_)
      case c1 => exact cell_one_new _ _ _
      case c2 => intro u hu; simp at hu; subst hu; rfl
      case c3 => simp [maxLen]; omega
      case c4 => simp; omega
      case c5 => have := hu.lt; simp; omega
      intro u' w1 hown' hgrow _ hat
      obtain ⟨g', cap', rfl⟩ := owns_form hown' (by omega)
      have hst' := stays_of (w := wr) hat (by omega)
      rw [byte_val (x / 2 ^ (8 * k) % 256) (by omega) (by omega)] at hown'
      have hO' := out_append (m := [UInt8.ofNat (x / 2 ^ (8 * k) % 256).toNat]) hu ((Below.refl wr.heap.size wr).alloc (Nat.le_refl _) _) (n := l.length + pre.length + 1) (by simp; omega) (by rw [bvals_append]; exact hown') hgrow
      have hc1 := hO'.1
      have hf1 := hO'.2.1
      have HO := Lib.hid hO'.2.2
      clear hO' hown' hgrow hat
      go_wp2
      go_roundw
      case rel =>
        refine ⟨k, pre ++ [UInt8.ofNat (x / 2 ^ (8 * k) % 256).toNat], _, by omega, rfl, ?_, ?_, hto.trans HO.out.2 hst, hst.trans hst' hto.size⟩
        · rw [← HP.out, HB.out]; simp
        · rw [← List.append_assoc]; exact HO.out.1
      case measure => simp [intOf]
end Go.Proofs.Ytmkcphelmgkipaa

namespace Go.Proofs.Ytmkcphelmgkipaa
open Go.RowKit
attribute [local go_sem ↓] Go.wp_at_zero Go.wp_at_succ

theorem vsz_lt (x n : Nat) (h : vsz x = n) (h8 : n ≤ 8) : x < 2 ^ (7 * n) := by
  unfold vsz at h
  repeat' split at h
  all_goals (subst h; first | omega | (simp only [Nat.reduceMul, Nat.reducePow]; omega))

theorem top_lt (x n : Nat) (h : vsz x = n) (h8 : n ≤ 8) (h1 : 1 ≤ n) : x / 256 ^ (n - 1) < 2 ^ (8 - n) := by
  have hx := vsz_lt x n h h8
  have e : (256 : Nat) ^ (n - 1) = 2 ^ (8 * (n - 1)) := by rw [Nat.pow_mul]
  rw [e, Nat.div_lt_iff_lt_mul (Nat.two_pow_pos _), ← Nat.pow_add]
  have : 8 - n + 8 * (n - 1) = 7 * n := by omega
  rw [this]; exact hx

theorem bits_u8_or (a b : Nat) (ha : a < 256) (hb : b < 256) : bits .or .u8 (a : Int) (b : Int) = ((a ||| b : Nat) : Int) := u8_or_nat a b ha hb

theorem hd_lt (n : Nat) (h1 : 1 ≤ n) (h9 : n ≤ 9) : hd n < 256 := by
  unfold hd; have := Nat.two_pow_pos (9 - n); omega

theorem hd_eq (n : Nat) (h1 : 1 ≤ n) (h9 : n ≤ 8) : hd n = 2 ^ (8 - n) * (2 * (2 ^ (n - 1) - 1)) := by
  have : n = 1 ∨ n = 2 ∨ n = 3 ∨ n = 4 ∨ n = 5 ∨ n = 6 ∨ n = 7 ∨ n = 8 := by omega
  rcases this with h | h | h | h | h | h | h | h <;> subst h <;> rfl

theorem top_or (x n : Nat) (h : vsz x = n) (h8 : n ≤ 8) (h1 : 1 ≤ n) :
    bits .or .u8 ((x / 256 ^ (n - 1) % 256 : Nat) : Int) (hd n : Int) = ((hd n + x / 256 ^ (n - 1) : Nat) : Int) ∧ hd n + x / 256 ^ (n - 1) < 256 := by
  have ht := top_lt x n h h8 h1
  have h28 : 2 ^ (8 - n) ≤ 128 := by
    have := Nat.pow_le_pow_right (n := 2) (by omega) (show 8 - n ≤ 7 by omega)
    simpa using this
  have hh := hd_lt n h1 (by omega)
  rw [bits_u8_or _ _ (by omega) hh, Nat.mod_eq_of_lt (by omega), hd_eq n h1 h8, Nat.or_comm, ← Nat.two_pow_add_eq_or_of_lt ht]
  refine ⟨rfl, ?_⟩
  rw [← hd_eq n h1 h8]
  have : 2 ^ (9 - n) = 2 * 2 ^ (8 - n) := by rw [← Nat.pow_succ']; congr 1; omega
  unfold hd; omega

theorem vr_nine (x : Nat) (h : vsz x = 9) (hx : x < 18446744073709551616) : vr x = 255 :: be x 8 := by
  unfold vr; rw [h]
  have : x / 256 ^ (9 - 1) = 0 := by simp only [Nat.reduceSub, Nat.reducePow]; omega
  rw [this]; rfl

def vrs (xs : List Nat) : List UInt8 := (xs.map vr).flatten
theorem vrs_snoc (xs : List Nat) (k : Nat) (h : k < xs.length) : vrs (xs.take (k + 1)) = vrs (xs.take k) ++ vr (xs.getD k 0) := by
  unfold vrs
  rw [List.take_succ_eq_append_getElem h, List.map_append, List.flatten_append]
  simp [h]
theorem vr_le (x : Nat) : (vr x).length ≤ 9 := by rw [vr_length]; exact (vsz_bd x).2
theorem vrs_le (xs : List Nat) : (vrs xs).length ≤ 9 * xs.length := by
  induction xs with
  | nil => simp [vrs]
  | cons x xs ih =>
    have := vr_le x
    simp only [vrs, List.map_cons, List.flatten_cons, List.length_append, List.length_cons] at ih ⊢
    omega
theorem vrs_take_le (xs : List Nat) (k : Nat) : (vrs (xs.take k)).length ≤ 9 * xs.length := by
  have h1 := vrs_le (xs.take k)
  have h2 : (xs.take k).length ≤ xs.length := by rw [List.length_take]; omega
  omega

theorem owns_slice {w : World} {base e size n : Nat} {v : Value} {xs : List Value} (h : w.ownsRow base e size v n xs) : ∃ a cap, v = .slice a n cap := by
  rcases h.2 with ⟨e1, e2⟩ | ⟨g, cap, cur, e1, _⟩
  · exact ⟨none, 0, by rw [e1, e2]⟩
  · exact ⟨_, cap, e1⟩

theorem out_stored {w : World} {o g n cap : Nat} {l r : List UInt8} {c d : UInt8} (h : OutAt w o (.slice (some ⟨g, 0, none⟩) n cap) (l ++ c :: r)) (hn : n = (l ++ c :: r).length) :
    OutAt (w.setCell ⟨g, l.length, none⟩ (.int .u8 d.toNat)).drew o (.slice (some ⟨g, 0, none⟩) n cap) (l ++ d :: r) ∧ OutTo w (w.setCell ⟨g, l.length, none⟩ (.int .u8 d.toNat)).drew o (.slice (some ⟨g, 0, none⟩) n cap) := by
  subst hn
  have hgo : o < g := h.own g rfl
  have hs := h.2.stored l.length (.int .u8 d.toNat)
  refine ⟨⟨?_, ?_⟩, ?_⟩
  · show (w.setCell _ _).heap[o]? = _
    rw [Below.heap_setCell _ _ _ _ (by show o ≠ g; omega)]; exact h.1
  · have e : (bvals (l ++ c :: r)).set l.length (.int .u8 (d.toNat : Int)) = bvals (l ++ d :: r) := by
      simp [bvals]
    rw [e] at hs
    have e2 : (l ++ c :: r).length = (l ++ d :: r).length := by simp
    rw [e2] at hs ⊢
    exact hs.1.drew
  · refine ⟨rfl, rfl, rfl, by simp, fun k hk h1 h2 => ?_⟩
    show (w.setCell _ _).heap[k]? = _
    exact Below.heap_setCell _ _ _ _ (fun e => h2 (by simp [Value.ownBlock, e]))

theorem vr_top (x n : Nat) (h : vsz x = n) : vr x = UInt8.ofNat (hd n + x / 256 ^ (n - 1)) :: be x (n - 1) := by unfold vr; rw [h]
theorem be_top (x n : Nat) (h : 1 ≤ n) : be x n = UInt8.ofNat (x / 256 ^ (n - 1) % 256) :: be x (n - 1) := by
  obtain ⟨n', rfl⟩ : ∃ n', n = n' + 1 := ⟨n - 1, by omega⟩
  rfl

set_option maxHeartbeats 400000 in
set_option maxRecDepth 100000 in
theorem var_any (o b off cap : Nat) (xs : List Nat) (v : Value) (l : List UInt8) (w : World) (hO : OutAt w o v l) (hl : l.length + 9 * xs.length ≤ 70368744177664) (hb : b < w.heap.size) (hbo : b ≠ o) (hbv : v.ownBlock ≠ some b)
    (hc : ∀ k, k < xs.length → w.cell? ⟨b, off + k, none⟩ = some (.int .u64 (xs.getD k 0 : Nat))) (hx : ∀ k, k < xs.length → xs.getD k 0 < 18446744073709551616) :
    Calls Try.prog 43 #[.pointer (some ⟨o, 0, none⟩), .slice (some ⟨b, off, none⟩) xs.length cap] w fun e w' => e = .returned (.tuple #[]) ∧
      ∃ v', OutAt w' o v' (l ++ vrs xs) ∧ OutTo w w' o v ∧ Stays w v v' := by
  obtain ⟨i0, hi, hz0, hz1, hz2⟩ := info_parts Try.info5
  have HC := Lib.hid hc; clear hc
  have HX := Lib.hid hx; clear hx
  have HBV := Lib.hid hbv; clear hbv
  go_enter Try.func43, Try.ntmps43
  go_wp2
  go_loopw [12] (fun i wr => ∃ (k : Nat) (u : Value), k ≤ xs.length ∧ i = .int .i64 k ∧ OutAt wr o u (l ++ vrs (xs.take k)) ∧ OutTo w wr o v ∧ Stays w v u)
    (fun i _ => xs.length - (intOf i).toNat)
  case atStart => exact ⟨0, v, by omega, rfl, by simpa [vrs] using hO, OutTo.refl _ _ _, Stays.refl _ _⟩
  case round =>
    obtain ⟨k, u, hk, rfl, hu, hto, hst⟩ := hrel
    by_cases hlt : k < xs.length
    · have hcell : wr.cell? ⟨b, off + k, none⟩ = some (.int .u64 (xs.getD k 0 : Nat)) := by
        rw [World.cell?_of_block (hto.block b hb hbo (fun e => HBV.out e.symm))]; exact HC.out k hlt
      have hxk := HX.out k hlt
      have HS := Lib.hid (vrs_snoc xs k hlt)
      have hle := vrs_take_le xs k
      obtain ⟨x, hx⟩ : ∃ x, x = xs.getD k 0 := ⟨_, rfl⟩
      rw [← hx] at hcell hxk HS
      clear hx
      have hc0 := hu.cell
      have hsz := vsz_bd x
      generalize hM : l ++ vrs (xs.take k) = m at *
      have hml : m.length ≤ 70368744177664 - 9 := by
        have := congrArg List.length hM
        simp only [List.length_append] at this
        have h2 := List.length_take_le k xs
        have h3 : (vrs (xs.take k)).length ≤ 9 * (xs.length - 1) := by
          have := vrs_le (xs.take k)
          rw [List.length_take] at this
          omega
        omega
      have HM := Lib.hid hM; clear hM
      by_cases h9 : vsz x = 9
      · go_wp2_with fail
        refine (size_any _ (by omega) (by omega) _).mono ?_
        rintro e w' ⟨rfl, rfl⟩
        rw [Int.toNat_natCast, h9]
        go_wp2_with (at_builtin; refine wpList_append_own_at _ rfl _ _ 52 rfl (o + 1) 5 i0 (.int .u8 0) 1 1 Try.underlying52 hi hz0 hz1 hz2 rfl (by decide) _ _ _ rfl (hu.2.alloc _) ⟨wr.heap.size, 0, none⟩ 1 1 [.int .u8 255] rfl rfl ?c1 ?c2 ?c3 ?c4 ?c5 ?_)
        case c1 => exact cell_one_new _ _ _
        case c2 => intro u hu; simp at hu; subst hu; rfl
        case c3 => simp [maxLen]; omega
        case c4 => simp; omega
        case c5 => have := hu.lt; simp; omega
        intro u' w1 hown' hgrow _ hat
        obtain ⟨g', cap', rfl⟩ := owns_form hown' (by omega)
        have hst' := stays_of (w := wr) hat (by omega)
        have hO' := out_append (m := [255]) hu ((Below.refl wr.heap.size wr).alloc (Nat.le_refl _) _) (n := m.length + 1) (by simp) (by rw [bvals_append]; exact hown') hgrow
        have hc1 := hO'.1
        have hf1 := hO'.2.1
        have HO := Lib.hid hO'.2.2
        clear hO' hown' hgrow hat
        go_wp2_with fail
        have hp := put_any o 8 (x : Int) _ _ (by omega) (by omega) (by omega) (by simp; omega) _ HO.out.1
        refine hp.mono ?_
        rintro e w' ⟨rfl, u2, ho2, ht2, hs2⟩
        rw [Int.toNat_natCast] at ho2
        have hR := vr_nine x h9 hxk
        have HR := Lib.hid hR; clear hR
        go_wp2
        go_roundw
        case rel =>
          refine ⟨k + 1, u2, by omega, by go_num, ?_, (hto.trans HO.out.2 hst).trans ht2 (hst.trans hst' hto.size), (hst.trans hst' hto.size).trans hs2 (by have := HO.out.2.size; have := hto.size; omega)⟩
          rw [HS.out, HR.out, ← List.append_assoc, HM.out]
          simpa using ho2
        case measure => simp [intOf]; omega
      · obtain ⟨ua, uc, hua⟩ := owns_slice hu.2
        subst hua
        go_wp2_with fail
        refine (size_any _ (by omega) (by omega) _).mono ?_
        rintro e w' ⟨rfl, rfl⟩
        rw [Int.toNat_natCast]
        generalize hn : vsz x = n at *
        have HN := Lib.hid hn; clear hn
        go_wp2_with fail
        have hp := put_any o n (x : Int) _ _ (by omega) (by omega) (by omega) (by omega) _ hu
        refine hp.mono ?_
        rintro e w1 ⟨rfl, u2, ho2, ht2, hs2⟩
        rw [Int.toNat_natCast] at ho2
        obtain ⟨g2, cap2, hu2⟩ := owns_form ho2.2 (by simp [be_length]; omega)
        subst hu2
        have hc2 := ho2.cell
        have hfg : w1.frozen? ⟨g2, m.length, none⟩ = false := ho2.2.frozenAt _
        have hcg : w1.cell? ⟨g2, m.length, none⟩ = some (.int .u8 (x / 256 ^ (n - 1) % 256 : Nat)) := by
          rw [ho2.2.cellAt m.length (by simp [be_length]; omega)]
          obtain ⟨n', rfl⟩ : ∃ n', n = n' + 1 := ⟨n - 1, by omega⟩
          have hy : x / 256 ^ n' % 256 < 256 := Nat.mod_lt _ (by omega)
          simp [bvals, be]
        have ht := top_or x n HN.out (by omega) (by omega)
        have HV := Lib.hid (vr_top x n HN.out)
        have ho2' : OutAt w1 o (.slice (some ⟨g2, 0, none⟩) (m ++ be x n).length cap2) (m ++ UInt8.ofNat (x / 256 ^ (n - 1) % 256) :: be x (n - 1)) := by rw [← be_top x n (by omega)]; exact ho2
        have hO3 := out_stored (d := UInt8.ofNat (hd n + x / 256 ^ (n - 1))) ho2' (by rw [be_top x n (by omega)])
        clear ho2'
        have e8 : (UInt8.ofNat (hd n + x / 256 ^ (n - 1))).toNat = hd n + x / 256 ^ (n - 1) := by rw [UInt8.toNat_ofNat', Nat.mod_eq_of_lt (by simpa using ht.2)]
        rw [e8, ← ht.1] at hO3
        have HO3 := Lib.hid hO3
        clear hO3 e8 ht
        generalize hye : x / 256 ^ (n - 1) % 256 = y at *
        have HYE := Lib.hid hye; clear hye
        have hL : (m ++ be x n).length = m.length + n := by simp [be_length]
        have hlt1 : (m.length : Int) < ((m ++ be x n).length : Int) := by rw [hL]; omega
        generalize hLe : (m ++ be x n).length = L at *
        have HL := Lib.hid hL; clear hL
        have HLe := Lib.hid hLe; clear hLe
        go_wp2
        go_region_with (go_at_call 74; refine (head_any n (by omega) (by omega) _).mono ?_; rintro e w' ⟨rfl, rfl⟩)
        all_goals go_wp2
        all_goals
          go_roundw
          case rel =>
            refine ⟨k + 1, _, by omega, by go_num, ?_, (hto.trans ht2 hst).trans HO3.out.2 (hst.trans hs2 hto.size), hst.trans hs2 hto.size⟩
            rw [HS.out, HV.out, ← List.append_assoc, HM.out]
            exact HO3.out.1
          case measure => simp [intOf]; omega
    · obtain rfl : k = xs.length := by omega
      rw [List.take_length] at hu
      go_wp2
      go_end0
      exact ⟨rfl, u, hu, hto, hst⟩

set_option maxHeartbeats 400000 in
set_option maxRecDepth 100000 in
theorem fixed_any (o n : Nat) (x : Int) (v : Value) (l : List UInt8) (h0 : 0 ≤ x) (h1 : x < 18446744073709551616) (hn1 : 1 ≤ n) (hn : n ≤ 8) (hl : l.length ≤ 70368744177664) (w : World) (hO : OutAt w o v l) :
    Calls Try.prog 42 #[.pointer (some ⟨o, 0, none⟩), .int .u64 x, .int .i64 n] w fun e w' => e = .returned (.int .i64 0) ∧
      ∃ v', OutAt w' o v' (l ++ be x.toNat n) ∧ OutTo w w' o v ∧ Stays w v v' := by
  have HP := Lib.hid (put_any o n x v l h0 h1 hn hl w hO)
  go_enter Try.func42, Try.ntmps42
  go_wp2_with fail
  refine HP.out.mono ?_
  rintro e w1 ⟨rfl, hq⟩
  have HQ := Lib.hid hq; clear hq
  go_wp2
  go_ret
  exact ⟨rfl, HQ.out⟩

end Go.Proofs.Ytmkcphelmgkipaa

namespace Go.Proofs.Ytmkcphelmgkipaa
open Go.RowKit

theorem strCells_bvals (s : ByteArray) : Lib.strCells s = bvals s.data.toList := rfl

set_option maxHeartbeats 400000 in
set_option maxRecDepth 100000 in
theorem raw_one (o b : Nat) (s : ByteArray) (v : Value) (l : List UInt8) (w : World) (hO : OutAt w o v l) (hl : l.length + s.size ≤ 70368744177664)
    (hc : w.cell? ⟨b, 0, none⟩ = some (.string s)) :
    Calls Try.prog 40 #[.pointer (some ⟨o, 0, none⟩), .slice (some ⟨b, 0, none⟩) 1 1] w fun e w' => e = .returned (.tuple #[]) ∧
      ∃ v', OutAt w' o v' (l ++ s.data.toList) ∧ OutTo w w' o v := by
  obtain ⟨i0, hi, hz0, hz1, hz2⟩ := info_parts Try.info5
  go_enter Try.func40, Try.ntmps40
  go_wp2
  go_loopw [10] (fun i wr => (i = .int .i64 0 ∧ wr = w) ∨ (i = .int .i64 1 ∧ ∃ v', OutAt wr o v' (l ++ s.data.toList) ∧ OutTo w wr o v))
    (fun i _ => 1 - (intOf i).toNat)
  case atStart => exact .inl ⟨rfl, rfl⟩
  case round =>
    rcases hrel with ⟨rfl, rfl⟩ | ⟨rfl, v', h1, h2⟩
    · have hc0 := hO.cell
      go_wp2_with (at_builtin; refine Lib.wpList_append_own_string _ rfl _ _ 52 9 rfl (o + 1) 5 i0 Try.underlying52 Try.underlying9 hi hz0 hz1 hz2 _ _ _ rfl hO.2 s rfl ?c1 ?c2 ?c3 ?_)
      case c1 => unfold maxLen; omega
      case c2 => omega
      case c3 => have := hO.lt; omega
      intro u' w1 hown' hgrow _
      obtain ⟨ua, uc, rfl⟩ := owns_slice hown'
      have hO' := out_append (m := s.data.toList) hO (Below.refl wr.heap.size wr) (n := l.length + s.size) (by simp) (by rw [bvals_append]; exact hown') hgrow
      have hc1 := hO'.1
      have hf1 := hO'.2.1
      have HO := Lib.hid hO'.2.2
      clear hO' hown' hgrow
      go_wp2
      go_roundw
      case rel => exact .inr ⟨rfl, _, HO.out⟩
      case measure => simp [intOf]
    · go_wp2
      go_end0
      exact ⟨rfl, v', h1, h2⟩

theorem OutAt.alloc {w : World} {o : Nat} {v : Value} {l : List UInt8} (h : OutAt w o v l) (x : Obj) : OutAt (w.alloc x) o v l :=
  ⟨by rw [Below.heap_alloc _ _ _ h.lt]; exact h.1, h.2.alloc x⟩
theorem OutTo.alloc (w : World) (o : Nat) (v : Value) (x : Obj) : OutTo w (w.alloc x) o v :=
  ⟨rfl, rfl, rfl, by simp, fun k hk _ _ => Below.heap_alloc _ _ _ hk⟩

theorem Stays.alloc {w : World} {v v' : Value} {x : Obj} (h : Stays (w.alloc x) v v') : Stays w v v' := by
  rcases h with e | ⟨g, e, hg⟩
  · exact .inl e
  · exact .inr ⟨g, e, by simp at hg; omega⟩

/-- One number, handed over in a new list. -/
theorem var_one (o b : Nat) (x : Int) (v : Value) (l : List UInt8) (w : World) (h0 : 0 ≤ x) (h1 : x < 18446744073709551616) (hO : OutAt w o v l) (hl : l.length + 9 ≤ 70368744177664) (hb : b = w.heap.size) :
    Calls Try.prog 43 #[.pointer (some ⟨o, 0, none⟩), .slice (some ⟨b, 0, none⟩) 1 1] (w.alloc (.cells #[.int .u64 x] 24)) fun e w' => e = .returned (.tuple #[]) ∧
      ∃ v', OutAt w' o v' (l ++ vr x.toNat) ∧ OutTo w w' o v ∧ Stays w v v' := by
  subst hb
  have ho := hO.lt
  have H := var_any o w.heap.size 0 1 [x.toNat] v l (w.alloc (.cells #[.int .u64 x] 24)) (hO.alloc _) (by simp; omega) (by simp) (by omega) (fun e => by have := hO.own_lt _ e; omega)
    (by intro k hk; simp at hk; subst hk; rw [World.cell?_alloc_at (hn := rfl)]; simp; omega) (by intro k hk; simp at hk; subst hk; simp; omega)
  refine H.mono ?_
  rintro e w' ⟨h1, v', h2, h3, h4⟩
  exact ⟨h1, v', by simpa [vrs] using h2, (OutTo.alloc w o v _).trans h3 (Stays.refl _ _), h4.alloc⟩

/-- Two numbers, handed over in a new list. -/
theorem var_two (o b : Nat) (x y : Int) (v : Value) (l : List UInt8) (w : World) (h0 : 0 ≤ x) (h1 : x < 18446744073709551616) (hy0 : 0 ≤ y) (hy1 : y < 18446744073709551616) (hO : OutAt w o v l) (hl : l.length + 18 ≤ 70368744177664) (hb : b = w.heap.size) :
    Calls Try.prog 43 #[.pointer (some ⟨o, 0, none⟩), .slice (some ⟨b, 0, none⟩) 2 2] (w.alloc (.cells #[.int .u64 x, .int .u64 y] 24)) fun e w' => e = .returned (.tuple #[]) ∧
      ∃ v', OutAt w' o v' (l ++ (vr x.toNat ++ vr y.toNat)) ∧ OutTo w w' o v ∧ Stays w v v' := by
  subst hb
  have ho := hO.lt
  have H := var_any o w.heap.size 0 2 [x.toNat, y.toNat] v l (w.alloc (.cells #[.int .u64 x, .int .u64 y] 24)) (hO.alloc _) (by simp; omega) (by simp) (by omega) (fun e => by have := hO.own_lt _ e; omega)
    (by
      intro k hk
      rw [World.cell?_alloc_at (hn := rfl)]
      match k, hk with
      | 0, _ => simp; omega
      | 1, _ => simp; omega) (by
      intro k hk
      match k, hk with
      | 0, _ => simp; omega
      | 1, _ => simp; omega)
  refine H.mono ?_
  rintro e w' ⟨h1, v', h2, h3, h4⟩
  exact ⟨h1, v', by simpa [vrs] using h2, (OutTo.alloc w o v _).trans h3 (Stays.refl _ _), h4.alloc⟩

/-- One text, handed over in a new list. -/
theorem raw_new (o b : Nat) (s : ByteArray) (v : Value) (l : List UInt8) (w : World) (hO : OutAt w o v l) (hl : l.length + s.size ≤ 70368744177664) (hb : b = w.heap.size) :
    Calls Try.prog 40 #[.pointer (some ⟨o, 0, none⟩), .slice (some ⟨b, 0, none⟩) 1 1] (w.alloc (.cells #[.string s] 9)) fun e w' => e = .returned (.tuple #[]) ∧
      ∃ v', OutAt w' o v' (l ++ s.data.toList) ∧ OutTo w w' o v := by
  subst hb
  refine (raw_one o w.heap.size s v l _ (hO.alloc _) hl (by rw [World.cell?_alloc_at (hn := rfl)]; rfl)).mono ?_
  rintro e w' ⟨h1, v', h2, h3⟩
  exact ⟨h1, v', h2, (OutTo.alloc w o v _).trans h3 (Stays.refl _ _)⟩

set_option maxHeartbeats 400000 in
set_option maxRecDepth 100000 in
theorem text_one (o b : Nat) (s : ByteArray) (v : Value) (l : List UInt8) (w : World) (hO : OutAt w o v l) (hl : l.length + s.size ≤ 70368744177600)
    (hc : w.cell? ⟨b, 0, none⟩ = some (.string s)) :
    Calls Try.prog 41 #[.pointer (some ⟨o, 0, none⟩), .slice (some ⟨b, 0, none⟩) 1 1] w fun e w' => e = .returned (.tuple #[]) ∧
      ∃ v', OutAt w' o v' (l ++ txt s.data.toList) ∧ OutTo w w' o v := by
  go_enter Try.func41, Try.ntmps41
  go_wp2
  go_loopw [8] (fun i wr => (i = .int .i64 0 ∧ wr = w) ∨ (i = .int .i64 1 ∧ ∃ v', OutAt wr o v' (l ++ txt s.data.toList) ∧ OutTo w wr o v))
    (fun i _ => 1 - (intOf i).toNat)
  case atStart => exact .inl ⟨rfl, rfl⟩
  case round =>
    rcases hrel with ⟨rfl, rfl⟩ | ⟨rfl, v', h1, h2⟩
    · have hv9 := vr_le s.size
      have HT : Hid (txt s.data.toList = vr s.size ++ s.data.toList) := rfl
      go_wp2_with fail
      refine (var_one o _ s.size v l wr (by omega) (by omega) hO (by omega) rfl).mono ?_
      rintro e w1 ⟨rfl, v1, ho1, ht1, hs1⟩
      rw [Int.toNat_natCast] at ho1
      go_wp2_with fail
      refine (raw_new o _ s v1 _ w1 ho1 (by simp; omega) rfl).mono ?_
      rintro e w2 ⟨rfl, v2, ho2, ht2⟩
      have HO := Lib.hid ho2
      clear ho2
      go_wp2
      go_roundw
      case rel =>
        refine .inr ⟨rfl, v2, ?_, ?_⟩
        · rw [HT.out, ← List.append_assoc]; exact HO.out
        · exact ht1.trans ht2 hs1
      case measure => simp [intOf]
    · go_wp2
      go_end0
      exact ⟨rfl, v', h1, h2⟩

/-- One text with its length, handed over in a new list. -/
theorem text_new (o b : Nat) (s : ByteArray) (v : Value) (l : List UInt8) (w : World) (hO : OutAt w o v l) (hl : l.length + s.size ≤ 70368744177600) (hb : b = w.heap.size) :
    Calls Try.prog 41 #[.pointer (some ⟨o, 0, none⟩), .slice (some ⟨b, 0, none⟩) 1 1] (w.alloc (.cells #[.string s] 9)) fun e w' => e = .returned (.tuple #[]) ∧
      ∃ v', OutAt w' o v' (l ++ txt s.data.toList) ∧ OutTo w w' o v := by
  subst hb
  refine (text_one o w.heap.size s v l _ (hO.alloc _) hl (by rw [World.cell?_alloc_at (hn := rfl)]; rfl)).mono ?_
  rintro e w' ⟨h1, v', h2, h3⟩
  exact ⟨h1, v', h2, (OutTo.alloc w o v _).trans h3 (Stays.refl _ _)⟩

set_option maxHeartbeats 400000 in
set_option maxRecDepth 100000 in
theorem string_any (o : Nat) (v : Value) (l : List UInt8) (w : World) (hO : OutAt w o v l) :
    Calls Try.prog 45 #[.pointer (some ⟨o, 0, none⟩)] w fun e w' => e = .returned (.string (str l)) ∧ w = w' := by
  have hc := hO.cell
  have hcv := own_str hO.2
  go_enter Try.func45, Try.ntmps45
  go_wp2
  go_ret
  exact ⟨rfl, rfl⟩
end Go.Proofs.Ytmkcphelmgkipaa
