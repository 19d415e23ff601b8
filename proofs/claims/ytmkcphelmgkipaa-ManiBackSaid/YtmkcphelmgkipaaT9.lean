import Derived.Test.YtmkcphelmgkipaaT8
import Derived.Laws.RangeAny
set_option linter.unusedVariables false
set_option linter.unusedSimpArgs false
namespace Go.Proofs.Ytmkcphelmgkipaa
open Go.RowKit

/-- May a rune be in a volume's name? -/
def okr (r : Int) : Bool := decide ((97 ≤ r ∧ r ≤ 122) ∨ (48 ≤ r ∧ r ≤ 57) ∨ r = 45)
theorem okr_yes {r : Int} (h : (97 ≤ r ∧ r ≤ 122) ∨ (48 ≤ r ∧ r ≤ 57) ∨ r = 45) : okr r = true := decide_eq_true h
theorem okr_no {r : Int} (h : ¬ ((97 ≤ r ∧ r ≤ 122) ∨ (48 ≤ r ∧ r ≤ 57) ∨ r = 45)) : okr r = false := decide_eq_false h

/-- Is a text a volume's name? -/
def vol (l : List UInt8) : Bool := decide (1 ≤ l.length ∧ l.length ≤ 32) && l.all (fun c => okr (c.toNat : Int))

theorem ret_bool {a b : Bool} (h : a = b) : Ending.returned (.bool a) = .returned (.bool b) := by rw [h]

set_option maxHeartbeats 400000 in
set_option maxRecDepth 100000 in
theorem plain_any (r : Int) (w : World) :
    Calls Try.prog 83 #[.int .i32 r] w fun e w' => e = .returned (.bool (okr r)) ∧ w = w' := by
  by_cases h1 : 97 ≤ r
  · by_cases h2 : r ≤ 122
    · rw [okr_yes (by omega)]
      go_enter Try.func83, Try.ntmps83
      go_wp2
      go_ret
      exact ⟨rfl, rfl⟩
    · rw [okr_no (by omega)]
      have h3 : 48 ≤ r := by omega
      have h4 : ¬ r ≤ 57 := by omega
      have h5 : (r == 45) = false := by simp; omega
      go_enter Try.func83, Try.ntmps83
      go_wp2
      go_ret
      exact ⟨ret_bool (by simp [*]), rfl⟩
  · by_cases h3 : 48 ≤ r
    · by_cases h4 : r ≤ 57
      · rw [okr_yes (by omega)]
        go_enter Try.func83, Try.ntmps83
        go_wp2
        go_ret
        exact ⟨ret_bool (by simp [*]), rfl⟩
      · rw [okr_no (by omega)]
        have h5 : (r == 45) = false := by simp; omega
        go_enter Try.func83, Try.ntmps83
        go_wp2
        go_ret
        exact ⟨ret_bool (by simp [*]), rfl⟩
    · by_cases h5 : r = 45
      · rw [okr_yes (by omega)]
        have h6 : (r == 45) = true := by simp [h5]
        go_enter Try.func83, Try.ntmps83
        go_wp2
        go_ret
        exact ⟨ret_bool (by simp [*]), rfl⟩
      · rw [okr_no (by omega)]
        have h6 : (r == 45) = false := by simp [h5]
        go_enter Try.func83, Try.ntmps83
        go_wp2
        go_ret
        exact ⟨ret_bool (by simp [*]), rfl⟩

theorem vol_long (l : List UInt8) (h : ¬ (1 ≤ l.length ∧ l.length ≤ 32)) : vol l = false := by unfold vol; rw [decide_eq_false h]; rfl
theorem vol_all (l : List UInt8) (h : 1 ≤ l.length ∧ l.length ≤ 32) (h2 : l.all (fun c => okr (c.toNat : Int)) = true) : vol l = true := by unfold vol; rw [decide_eq_true h, h2]; rfl
theorem vol_bad (s : ByteArray) (k : Nat) (h : k < s.size) (h2 : okr (s[k].toNat : Int) = false) : vol s.data.toList = false := by
  unfold vol
  rw [Bool.and_eq_false_iff]
  right
  rw [List.all_eq_false]
  exact ⟨s[k], by rw [Array.mem_toList_iff]; exact Array.getElem_mem h, by rw [h2]; simp⟩

theorem all_snoc (s : ByteArray) (k : Nat) (h : k < s.size) (h1 : (s.data.toList.take k).all (fun c => okr (c.toNat : Int)) = true) (h2 : okr (s[k].toNat : Int) = true) :
    (s.data.toList.take (k + 1)).all (fun c => okr (c.toNat : Int)) = true := by
  rw [take_snoc s k h, List.all_append, h1]; simp [h2]

/-- The error of a name. -/
def volE (l : List UInt8) : Int := if vol l = true then 0 else 1

set_option maxHeartbeats 400000 in
set_option maxRecDepth 100000 in
theorem volume_any (s : ByteArray) (w : World) (hs : s.size ≤ 140737488351232) :
    Calls Try.prog 64 #[.string s] w fun e w' => e = .returned (.int .i64 (volE s.data.toList)) ∧ Below w.heap.size w w' := by
  have hsz : s.data.toList.length = s.size := by simp
  by_cases h0 : s.size = 0
  · have HV : Hid (volE s.data.toList = 1) := by unfold volE; rw [vol_long _ (by omega)]; rfl
    have h1 : s.toList.isEmpty = true := by rw [ByteArray.toList_eq]; exact List.isEmpty_iff.2 (List.length_eq_zero_iff.1 (by omega))
    clear hsz
    have H0 := Lib.hid h0; clear h0
    go_enter Try.func64, Try.ntmps64
    go_wp2
    go_ret
    exact ⟨by rw [HV.out]; rfl, Below.refl _ _⟩
  by_cases h32 : 32 < s.size
  · have HV : Hid (volE s.data.toList = 1) := by unfold volE; rw [vol_long _ (by omega)]; rfl
    have h1 : s.toList.isEmpty = false := by rw [ByteArray.toList_eq]; cases hh : s.data.toList with | nil => rw [hh] at hsz; simp at hsz; omega | cons => rfl
    clear hsz
    go_enter Try.func64, Try.ntmps64
    go_wp2
    go_ret
    exact ⟨by rw [HV.out]; rfl, Below.refl _ _⟩
  have h1 : s.toList.isEmpty = false := by rw [ByteArray.toList_eq]; cases hh : s.data.toList with | nil => rw [hh] at hsz; simp at hsz; omega | cons => rfl
  have HSZ := Lib.hid hsz; clear hsz
  go_enter Try.func64, Try.ntmps64
  go_wp2
  go_loopw [14] (fun _ wr => ∃ pos : Nat, wr = w.alloc (.stringIter s pos) ∧ pos ≤ s.size ∧ Hid ((s.data.toList.take pos).all (fun c => okr (c.toNat : Int)) = true)) (fun _ wr => s.size - wr.iterPos w.heap.size)
  case atStart => exact ⟨0, rfl, by omega, rfl⟩
  case round =>
    obtain ⟨pos, rfl, hp, HA⟩ := hrel
    by_cases hlt : pos < s.size
    · by_cases ha : s[pos].toNat < 128
      · have hnx : ∀ ty, (Instr.next (.pointer (some ⟨w.heap.size, 0, none⟩)) true ty).run Try.prog (w.alloc (.stringIter s pos)) = .ok (.tuple #[.bool true, .int .i64 pos, .int .i32 (s[pos]'hlt).toNat]) (w.alloc (.stringIter s (pos + 1))) := fun ty => run_next_ascii w s pos ty hlt ha
        cases hk : okr (s[pos].toNat : Int) with
        | true =>
          have HN := Lib.hid (all_snoc s pos hlt HA.out hk)
          have HK := Lib.hid hk; clear hk
          go_wp2_with (go_at_call 83; refine (plain_any _ _).mono ?_; rintro e w' ⟨rfl, rfl⟩; rw [HK.out])
          go_roundw
          case rel => exact ⟨pos + 1, rfl, by omega, HN⟩
          case measure =>
            have e1 := World.iterPos_iter w s (pos + 1)
            have e2 := World.iterPos_iter w s pos
            unfold World.iter at e1 e2
            rw [e1, e2]; omega
        | false =>
          have HV : Hid (volE s.data.toList = 1) := by unfold volE; rw [vol_bad s pos hlt hk]; rfl
          have HK := Lib.hid hk; clear hk
          go_wp2_with (go_at_call 83; refine (plain_any _ _).mono ?_; rintro e w' ⟨rfl, rfl⟩; rw [HK.out])
          go_ret
          exact ⟨by rw [HV.out]; rfl, (Below.refl _ w).alloc (Nat.le_refl _) _⟩
      · have hnx : ∀ ty, (Instr.next (.pointer (some ⟨w.heap.size, 0, none⟩)) true ty).run Try.prog (w.alloc (.stringIter s pos)) = .ok (.tuple #[.bool true, .int .i64 pos, .int .i32 (Utf8.decode s pos).1]) (w.alloc (.stringIter s (pos + (Utf8.decode s pos).2))) := fun ty => run_next_any w s pos ty hlt
        have hd := decode_high s pos hlt (by omega)
        have HV : Hid (volE s.data.toList = 1) := by unfold volE; rw [vol_bad s pos hlt (okr_no (by omega))]; rfl
        have HK : Hid (okr ((Utf8.decode s pos).1 : Int) = false) := okr_no (by omega)
        go_wp2_with (go_at_call 83; refine (plain_any _ _).mono ?_; rintro e w' ⟨rfl, rfl⟩; rw [HK.out])
        go_ret
        exact ⟨by rw [HV.out]; rfl, (Below.refl _ w).alloc (Nat.le_refl _) _⟩
    · have hnx : ∀ ty, (Instr.next (.pointer (some ⟨w.heap.size, 0, none⟩)) true ty).run Try.prog (w.alloc (.stringIter s pos)) = .ok (.tuple #[.bool false]) (w.alloc (.stringIter s pos)) := fun ty => run_next_end w s pos ty hlt
      have HV : Hid (volE s.data.toList = 0) := by
        have := HSZ.out
        have ha := HA.out
        rw [List.take_of_length_le (by omega)] at ha
        unfold volE; rw [vol_all _ (by omega) ha]; rfl
      go_wp2
      go_ret
      exact ⟨by rw [HV.out]; rfl, (Below.refl _ w).alloc (Nat.le_refl _) _⟩
end Go.Proofs.Ytmkcphelmgkipaa
