import Derived.Test.YtmkcphelmgkipaaT3
import Derived.OwnWalk
set_option linter.unusedVariables false
set_option linter.unusedSimpArgs false
namespace Go.Proofs.Ytmkcphelmgkipaa
open Go.RowKit

theorem Try.info5 : (Try.prog.info? 5).map (fun i => (i.zero, i.size, i.bytes)) = some (some (.int .u8 0), 1, 1) := by kernel_rfl

/-- Bytes as the cells that hold them. -/
def bvals (l : List UInt8) : List Value := l.map (fun c => Value.int .u8 (c.toNat : Int))
theorem bvals_append (l m : List UInt8) : bvals (l ++ m) = bvals l ++ bvals m := by simp [bvals]
theorem bvals_length (l : List UInt8) : (bvals l).length = l.length := by simp [bvals]
theorem byte_back (y : Int) (h0 : 0 ≤ y) (h1 : y < 256) : ((UInt8.ofNat y.toNat).toNat : Int) = y := by
  rw [UInt8.toNat_ofNat']; omega
theorem byte_val (y : Int) (h0 : 0 ≤ y) (h1 : y < 256) : Value.int .u8 y = Value.int .u8 ((UInt8.ofNat y.toNat).toNat : Int) := by
  rw [byte_back y h0 h1]

theorem strOfNums_bytes (l : List UInt8) : strOfNums (l.map fun c => (c.toNat : Int)) = str l := by
  unfold strOfNums str
  congr 2
  rw [List.map_map]
  conv => rhs; rw [← List.map_id l]
  apply List.map_congr_left
  intro c _
  simp

/-- A slice that the call owns, as a string. -/
theorem own_str {wr : World} {base n : Nat} {v : Value} {l : List UInt8} (h : wr.ownsRow base 5 1 v n (bvals l)) :
    Sem.run Try.prog (convert 52 9 v) wr = .ok (.string (str l)) wr := by
  have hlen : l.length = n := by have := h.1; rw [bvals_length] at this; omega
  rcases h.2 with ⟨rfl, hn⟩ | ⟨g, cap, cur, rfl, hg⟩
  · have : l = [] := List.length_eq_zero_iff.1 (by omega)
    subst this
    exact run_convert_bytes_nil (P := Try.prog) wr 52 5 Try.underlying52 Try.underlying5 0 0 9 Try.underlying9
  · rw [← strOfNums_bytes]
    refine run_convert_bytes_arg (P := Try.prog) wr 52 5 Try.underlying52 Try.underlying5 g 0 n cap _ (by simpa using hlen) ?_ 9 Try.underlying9
    intro i hi
    rw [Nat.zero_add, h.cellAt i (by omega)]
    simp [bvals, hlen, hi]

/-- A number as bytes, the lowest one first. -/
def bytesUp (x : Int) : Nat → List UInt8
  | 0 => []
  | k + 1 => bytesUp x k ++ [UInt8.ofNat (x / 256 ^ k % 256).toNat]
theorem bytesUp_length (x : Int) (k : Nat) : (bytesUp x k).length = k := by
  induction k with
  | zero => rfl
  | succ k ih => simp [bytesUp, ih]
theorem bytesUp_four (x : Int) (h0 : 0 ≤ x) (h1 : x < 4294967296) : bytesUp x 4 = four x := by
  have e : x / 16777216 % 256 = x / 16777216 := by omega
  simp [bytesUp, four, e]

set_option maxHeartbeats 400000 in
set_option maxRecDepth 100000 in
theorem four_any (x : Int) (h0 : 0 ≤ x) (h1 : x < 4294967296) (w : World) :
    Calls Try.prog 68 #[.int .u32 x] w fun e w' => e = .returned (.string (str (four x))) ∧ Below w.heap.size w w' := by
  obtain ⟨i0, hi, hz0, hz1, hz2⟩ := info_parts Try.info5
  have HF := Lib.hid (bytesUp_four x h0 h1)
  go_enter Try.func68, Try.ntmps68
  go_wp2
  go_loopw [0, 3, 4] (fun y v i wr => ∃ k : Nat, k ≤ 4 ∧ i = .int .i64 k ∧ y = .int .u32 (x / 256 ^ k) ∧ wr.ownsRow w.heap.size 5 1 v k (bvals (bytesUp x k)) ∧ Below w.heap.size w wr)
     (fun _ _ i _ => 4 - (intOf i).toNat)
  case atStart => exact ⟨0, by omega, rfl, by simp, World.ownsRow_nil _ _ _ _, Below.refl _ _⟩
  case round =>
    obtain ⟨k, hk, rfl, rfl, hown, hB⟩ := hrel
    have hy0 : 0 ≤ x / 256 ^ k := Int.ediv_nonneg h0 (Int.pow_nonneg (by omega))
    have hy1 : x / 256 ^ k ≤ x := Int.ediv_le_self _ h0
    by_cases hlt : k < 4
    · have hup : bytesUp x (k + 1) = bytesUp x k ++ [UInt8.ofNat (x / 256 ^ k % 256).toNat] := rfl
      have HU := Lib.hid hup; clear hup
      have hdv : x / 256 ^ k / 256 = x / 256 ^ (k + 1) := by rw [Int.pow_succ, Int.ediv_ediv_of_nonneg (Int.pow_nonneg (by omega))]
      have HD := Lib.hid hdv; clear hdv
      generalize hY : x / 256 ^ k = y at *
      have HY := Lib.hid hY; clear hY
      go_wp2_with (at_builtin; refine wpList_append_own _ rfl _ _ 52 rfl w.heap.size 5 i0 (.int .u8 0) 1 1 Try.underlying52 hi hz0 hz1 hz2 rfl (by decide) _ _ _ rfl (hown.alloc _) ⟨wr.heap.size, 0, none⟩ 1 1 [.int .u8 (y % 256)] rfl rfl ?c1 ?c2 ?c3 ?c4 ?c5 ?_)
      case c1 => exact cell_one_new _ _ _
      case c2 => intro u hu; simp at hu; subst hu; rfl
      case c3 => unfold maxLen; omega
      case c4 => omega
      case c5 => have := hB.size; simp; omega
      intro v' w1 hown' hgrow _
      have hB' := (hB.alloc (hB.size) (.cells #[.int .u8 (y % 256)] 5)).grown hgrow (by have := hB.size; simp; omega) (fun j hj => (hown.lt j hj).1)
      go_wp2
      go_roundw
      case rel => 
        refine ⟨k + 1, by omega, by go_num, by rw [HD.out], ?_, hB'⟩
        rw [HU.out, bvals_append]
        rw [byte_val (y % 256) (by omega) (by omega)] at hown'
        exact hown'
      case measure => simp [intOf]; omega
    · obtain rfl : k = 4 := by omega
      rw [HF.out] at hown
      have hcv := own_str hown
      go_wp2
      go_ret
      exact ⟨rfl, hB⟩
end Go.Proofs.Ytmkcphelmgkipaa
