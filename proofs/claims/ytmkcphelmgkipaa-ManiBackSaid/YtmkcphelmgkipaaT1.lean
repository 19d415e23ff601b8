import Derived.Test.YtmkcphelmgkipaaRows
import Derived.Test.YtmkcphelmgkipaaPure
import Derived.WalkKit
import Derived.WalkSpells
import Derived.WalkLawsBesides
import Derived.Lib.Hide
import Derived.Lib.Strings
import Derived.Lib.SmallJoins
import Derived.Deep.QuietTactic
import Derived.BigQuiet
set_option linter.unusedVariables false
set_option linter.unusedSimpArgs false
namespace Go.Proofs.Ytmkcphelmgkipaa
open Go.RowKit

set_option maxHeartbeats 400000 in
theorem step_any (x : Int) (h0 : 0 ≤ x) (h1 : x < 4294967296) (w : World) :
    Calls Try.prog 105 #[.int .u32 x] w fun e w' => e = .returned (.int .u32 (stp x)) ∧ w = w' := by
  go_enter Try.func105, Try.ntmps105
  go_wp2
  go_ret
  exact ⟨rfl, rfl⟩

set_option maxHeartbeats 400000 in
theorem byted_any (x b : Int) (h0 : 0 ≤ x) (h1 : x < 4294967296) (hb : 0 ≤ b) (hb' : b < 256) (w : World) :
    Calls Try.prog 99 #[.int .u32 x, .int .u8 b] w fun e w' => e = .returned (.int .u32 (bytd x b)) ∧ w = w' := by
  go_enter Try.func99, Try.ntmps99
  go_wp2
  go_loop [0, 9] (fun y i => ∃ k : Nat, k ≤ 8 ∧ i = .int .i64 k ∧ y = .int .u32 (stps k (xr x b))) (fun _ i => 8 - (intOf i).toNat)
  case atStart => exact ⟨0, by omega, rfl, rfl⟩
  case round =>
    obtain ⟨k, hk, rfl, rfl⟩ := hrel
    have hx := xr_bd x b h0 h1 hb (by omega)
    have hs := stps_bd k _ hx.1 hx.2
    by_cases hlt : k < 8
    · go_wp2_with (go_at_call 105; refine (step_any _ hs.1 hs.2 _).mono ?_; rintro e w' ⟨rfl, rfl⟩)
      go_round
      case rel => exact ⟨k + 1, by omega, by go_num, by rw [stps_succ]⟩
      case measure => simp [intOf]; omega
    · obtain rfl : k = 8 := by omega
      go_wp2
      go_ret
      exact ⟨rfl, rfl⟩
end Go.Proofs.Ytmkcphelmgkipaa
