import Derived.Test.YtmkcphelmgkipaaT37
set_option linter.unusedVariables false
set_option linter.unusedSimpArgs false
namespace Go.Proofs.Ytmkcphelmgkipaa
open Go.RowKit
attribute [local go_sem ↓] Go.wp_at_zero Go.wp_at_succ

def awakeMan : Man := ⟨⟨#[118]⟩, 0, 3, 9, ⟨#[]⟩, 0, []⟩

theorem awake_front : front awakeMan ++ snapsBytes awakeMan.snaps = [77, 65, 78, 50, 1, 118, 0, 0, 0, 0, 0, 0, 0, 0, 3, 9, 0, 0, 0] := by decide +kernel
theorem awake_chk : chk awakeMan = 0 := by decide +kernel

theorem four_length (x : Int) : (four x).length = 4 := rfl

theorem awake_enc : ∃ s, enc awakeMan = [77, 65, 78, 50, 1, 118, 0, 0, 0, 0, 0, 0, 0, 0, 3, 9, 0, 0, 0] ++ s ∧ s.length = 4 := by
  refine ⟨four (sumOf [77, 65, 78, 50, 1, 118, 0, 0, 0, 0, 0, 0, 0, 0, 3, 9, 0, 0, 0]), ?_, rfl⟩
  unfold enc
  rw [awake_front]
  rfl

set_option maxHeartbeats 1000000 in
set_option maxRecDepth 100000 in
theorem awake_any (w : World) : Calls Try.prog 7 #[] w fun e w' => e = .returned (.bool true) ∧ Below w.heap.size w w' := by
  have hf : Fits awakeMan := ⟨by decide, by decide, by decide, fun x hx => by cases hx⟩
  have hE := encode_good awakeMan (.slice none 0 0) w hf (by decide) (snaps_nil w) awake_chk
  obtain ⟨s, hs, h4⟩ := awake_enc
  have hsz : (str (enc awakeMan)).size = 23 := by rw [str_size, hs]; simp [h4]
  have hpre : (((str (enc awakeMan)).extract 0 19).toList == [77, 65, 78, 50, 1, 118, 0, 0, 0, 0, 0, 0, 0, 0, 3, 9, 0, 0, 0]) = true := by
    rw [ext_str, ByteArray.toList_eq, str_data, str_data, hs]
    simp
  generalize str (enc awakeMan) = E at *
  have HE : Hid (Calls Try.prog 17 #[.agg #[.string ⟨#[118]⟩, .int .u64 0, .int .i64 3, .int .i64 9, .string ⟨#[]⟩, .int .i64 0, .slice none 0 0]] w fun e w' => e = .returned (.tuple #[.string E, .int .i64 0]) ∧ Below w.heap.size w w') := hE
  have hsi : ((E.size : Nat) : Int) = 23 := by omega
  have hsd : (((E.size : Nat) : Int) == 23) = true := by rw [beq_iff_eq]; exact hsi
  have hle : (19 : Int) ≤ ((E.size : Nat) : Int) := by omega
  have HSI := Lib.hid hsi
  clear hE hs h4 hf hsi hsd
  go_enter Try.func7, Try.ntmps7
  go_wp2_with fail
  refine HE.out.mono ?_
  rintro e w1 ⟨rfl, hb⟩
  go_wp2
  go_ret
  exact ⟨rfl, hb⟩
end Go.Proofs.Ytmkcphelmgkipaa
