import Derived.Test.YtmkcphelmgkipaaG1
import Derived.Laws.RangeAny
import Derived.RangeFuncNested
import Derived.RangeFuncBound
import Derived.RangeFuncCalls
import Derived.RangeFuncLeaves
import Derived.Shelf.Abstract
import Derived.Shelf.RegionOpen
import Derived.OwnWalkIn
import Derived.TacticsInMore
import Derived.LoopNIn
import Derived.LoopIn
set_option linter.unusedVariables false
set_option linter.unusedSimpArgs false
namespace Go.Proofs.Ytmkcphelmgkipaa
open Go.RowKit

/-- May a rune be in a volume's name? -/
def okr (r : Int) : Bool := decide ((97 ≤ r ∧ r ≤ 122) ∨ (48 ≤ r ∧ r ≤ 57) ∨ r = 45)
theorem okr_yes {r : Int} (h : (97 ≤ r ∧ r ≤ 122) ∨ (48 ≤ r ∧ r ≤ 57) ∨ r = 45) : okr r = true := decide_eq_true h
theorem okr_no {r : Int} (h : ¬ ((97 ≤ r ∧ r ≤ 122) ∨ (48 ≤ r ∧ r ≤ 57) ∨ r = 45)) : okr r = false := decide_eq_false h

/-- Is a text a volume's name? -/
def vol (l : List UInt8) : Bool := decide (1 ≤ l.length ∧ l.length ≤ 32) && l.all (fun c => okr (c.toNat : Int))

theorem ret_bool {a b : Bool} (h : a = b) : Ending.returned (.bool a) = .returned (.bool b) := by rw [h]

set_option maxHeartbeats 400000 in
set_option maxRecDepth 100000 in
theorem plain_any (r : Int) (w : World) :
    Calls Try.prog 83 #[.int .i32 r] w fun e w' => e = .returned (.bool (okr r)) ∧ w = w' := by
  by_cases h1 : 97 ≤ r
  · by_cases h2 : r ≤ 122
    · rw [okr_yes (by omega)]
      go_enter Try.func83, Try.ntmps83
      go_wp2
      go_ret
      exact ⟨rfl, rfl⟩
    · rw [okr_no (by omega)]
      have h3 : 48 ≤ r := by omega
      have h4 : ¬ r ≤ 57 := by omega
      have h5 : (r == 45) = false := by simp; omega
      go_enter Try.func83, Try.ntmps83
      go_wp2
      go_ret
      exact ⟨ret_bool (by simp [*]), rfl⟩
  · by_cases h3 : 48 ≤ r
    · by_cases h4 : r ≤ 57
      · rw [okr_yes (by omega)]
        go_enter Try.func83, Try.ntmps83
        go_wp2
        go_ret
        exact ⟨ret_bool (by simp [*]), rfl⟩
      · rw [okr_no (by omega)]
        have h5 : (r == 45) = false := by simp; omega
        go_enter Try.func83, Try.ntmps83
        go_wp2
        go_ret
        exact ⟨ret_bool (by simp [*]), rfl⟩
    · by_cases h5 : r = 45
      · rw [okr_yes (by omega)]
        have h6 : (r == 45) = true := by simp [h5]
        go_enter Try.func83, Try.ntmps83
        go_wp2
        go_ret
        exact ⟨ret_bool (by simp [*]), rfl⟩
      · rw [okr_no (by omega)]
        have h6 : (r == 45) = false := by simp [h5]
        go_enter Try.func83, Try.ntmps83
        go_wp2
        go_ret
        exact ⟨ret_bool (by simp [*]), rfl⟩

theorem vol_long (l : List UInt8) (h : ¬ (1 ≤ l.length ∧ l.length ≤ 32)) : vol l = false := by unfold vol; rw [decide_eq_false h]; rfl
theorem vol_all (l : List UInt8) (h : 1 ≤ l.length ∧ l.length ≤ 32) (h2 : l.all (fun c => okr (c.toNat : Int)) = true) : vol l = true := by unfold vol; rw [decide_eq_true h, h2]; rfl
theorem vol_bad (s : ByteArray) (k : Nat) (h : k < s.size) (h2 : okr (s[k].toNat : Int) = false) : vol s.data.toList = false := by
  unfold vol
  rw [Bool.and_eq_false_iff]
  right
  rw [List.all_eq_false]
  exact ⟨s[k], by rw [Array.mem_toList_iff]; exact Array.getElem_mem h, by rw [h2]; simp⟩

theorem all_snoc (s : ByteArray) (k : Nat) (h : k < s.size) (h1 : (s.data.toList.take k).all (fun c => okr (c.toNat : Int)) = true) (h2 : okr (s[k].toNat : Int) = true) :
    (s.data.toList.take (k + 1)).all (fun c => okr (c.toNat : Int)) = true := by
  rw [take_snoc s k h, List.all_append, h1]; simp [h2]

/-- The error of a name. -/
def volE (l : List UInt8) : Int := if vol l = true then 0 else 1

set_option maxHeartbeats 400000 in
set_option maxRecDepth 100000 in
theorem volume_any (s : ByteArray) (w : World) (hs : s.size ≤ 140737488351232) :
    Calls Try.prog 64 #[.string s] w fun e w' => e = .returned (.int .i64 (volE s.data.toList)) ∧ Below w.heap.size w w' := by
  have hsz : s.data.toList.length = s.size := by simp
  by_cases h0 : s.size = 0
  · have HV : Hid (volE s.data.toList = 1) := by unfold volE; rw [vol_long _ (by omega)]; rfl
    have h1 : s.toList.isEmpty = true := by rw [ByteArray.toList_eq]; exact List.isEmpty_iff.2 (List.length_eq_zero_iff.1 (by omega))
    clear hsz
    have H0 := Lib.hid h0; clear h0
    go_enter Try.func64, Try.ntmps64
    go_wp2
    go_ret
    exact ⟨by rw [HV.out]; rfl, Below.refl _ _⟩
  by_cases h32 : 32 < s.size
  · have HV : Hid (volE s.data.toList = 1) := by unfold volE; rw [vol_long _ (by omega)]; rfl
    have h1 : s.toList.isEmpty = false := by rw [ByteArray.toList_eq]; cases hh : s.data.toList with | nil => rw [hh] at hsz; simp at hsz; omega | cons => rfl
    clear hsz
    go_enter Try.func64, Try.ntmps64
    go_wp2
    go_ret
    exact ⟨by rw [HV.out]; rfl, Below.refl _ _⟩
  have h1 : s.toList.isEmpty = false := by rw [ByteArray.toList_eq]; cases hh : s.data.toList with | nil => rw [hh] at hsz; simp at hsz; omega | cons => rfl
  have HSZ := Lib.hid hsz; clear hsz
  go_enter Try.func64, Try.ntmps64
  go_wp2
  go_loopw [14] (fun _ wr => ∃ pos : Nat, wr = w.alloc (.stringIter s pos) ∧ pos ≤ s.size ∧ Hid ((s.data.toList.take pos).all (fun c => okr (c.toNat : Int)) = true)) (fun _ wr => s.size - wr.iterPos w.heap.size)
  case atStart => exact ⟨0, rfl, by omega, rfl⟩
  case round =>
    obtain ⟨pos, rfl, hp, HA⟩ := hrel
    by_cases hlt : pos < s.size
    · by_cases ha : s[pos].toNat < 128
      · have hnx : ∀ ty, (Instr.next (.pointer (some ⟨w.heap.size, 0, none⟩)) true ty).run Try.prog (w.alloc (.stringIter s pos)) = .ok (.tuple #[.bool true, .int .i64 pos, .int .i32 (s[pos]'hlt).toNat]) (w.alloc (.stringIter s (pos + 1))) := fun ty => run_next_ascii w s pos ty hlt ha
        cases hk : okr (s[pos].toNat : Int) with
        | true =>
          have HN := Lib.hid (all_snoc s pos hlt HA.out hk)
          have HK := Lib.hid hk; clear hk
          go_wp2_with (go_at_call 83; refine (plain_any _ _).mono ?_; rintro e w' ⟨rfl, rfl⟩; rw [HK.out])
          go_roundw
          case rel => exact ⟨pos + 1, rfl, by omega, HN⟩
          case measure =>
            have e1 := World.iterPos_iter w s (pos + 1)
            have e2 := World.iterPos_iter w s pos
            unfold World.iter at e1 e2
            rw [e1, e2]; omega
        | false =>
          have HV : Hid (volE s.data.toList = 1) := by unfold volE; rw [vol_bad s pos hlt hk]; rfl
          have HK := Lib.hid hk; clear hk
          go_wp2_with (go_at_call 83; refine (plain_any _ _).mono ?_; rintro e w' ⟨rfl, rfl⟩; rw [HK.out])
          go_ret
          exact ⟨by rw [HV.out]; rfl, (Below.refl _ w).alloc (Nat.le_refl _) _⟩
      · have hnx : ∀ ty, (Instr.next (.pointer (some ⟨w.heap.size, 0, none⟩)) true ty).run Try.prog (w.alloc (.stringIter s pos)) = .ok (.tuple #[.bool true, .int .i64 pos, .int .i32 (Utf8.decode s pos).1]) (w.alloc (.stringIter s (pos + (Utf8.decode s pos).2))) := fun ty => run_next_any w s pos ty hlt
        have hd := decode_high s pos hlt (by omega)
        have HV : Hid (volE s.data.toList = 1) := by unfold volE; rw [vol_bad s pos hlt (okr_no (by omega))]; rfl
        have HK : Hid (okr ((Utf8.decode s pos).1 : Int) = false) := okr_no (by omega)
        go_wp2_with (go_at_call 83; refine (plain_any _ _).mono ?_; rintro e w' ⟨rfl, rfl⟩; rw [HK.out])
        go_ret
        exact ⟨by rw [HV.out]; rfl, (Below.refl _ w).alloc (Nat.le_refl _) _⟩
    · have hnx : ∀ ty, (Instr.next (.pointer (some ⟨w.heap.size, 0, none⟩)) true ty).run Try.prog (w.alloc (.stringIter s pos)) = .ok (.tuple #[.bool false]) (w.alloc (.stringIter s pos)) := fun ty => run_next_end w s pos ty hlt
      have HV : Hid (volE s.data.toList = 0) := by
        have := HSZ.out
        have ha := HA.out
        rw [List.take_of_length_le (by omega)] at ha
        unfold volE; rw [vol_all _ (by omega) ha]; rfl
      go_wp2
      go_ret
      exact ⟨by rw [HV.out]; rfl, (Below.refl _ w).alloc (Nat.le_refl _) _⟩
end Go.Proofs.Ytmkcphelmgkipaa

namespace Go.Proofs.Ytmkcphelmgkipaa
open Go.RowKit

set_option maxHeartbeats 1000000 in
set_option maxRecDepth 100000 in
theorem rvolume_any (s : ByteArray) (w : World) (hs : s.size ≤ 140737488351232) :
    Calls Try.prog 38 #[.string s] w fun e w' => e = .returned (.bool (vol s.data.toList)) ∧ w = w' := by
  have hsz : s.data.toList.length = s.size := by simp
  have HSZ := Lib.hid hsz; clear hsz
  go_enter Try.func38, Try.ntmps38
  go_wp2
  go_loop [3] (fun i => ∃ k : Nat, i = .int .i64 k ∧ k ≤ s.size ∧ Hid ((s.data.toList.take k).all (fun c => okr (c.toNat : Int)) = true)) (fun i => s.size - (intOf i).toNat)
  case atStart => exact ⟨0, rfl, by omega, rfl⟩
  case round =>
    obtain ⟨k, rfl, hk, HA⟩ := hrel
    by_cases hlt : k < s.size
    · have hb := UInt8.toNat_lt s[k]
      have HN : Hid (okr (s[k].toNat : Int) = true → (s.data.toList.take (k + 1)).all (fun c => okr (c.toNat : Int)) = true) := all_snoc s k hlt HA.out
      have HB : Hid (okr (s[k].toNat : Int) = false → vol s.data.toList = false) := vol_bad s k hlt
      obtain ⟨c, hc⟩ : ∃ c : Nat, c = s[k].toNat := ⟨_, rfl⟩
      by_cases h1 : s[k].toNat < 97
      · by_cases h3 : s[k].toNat < 48
        · by_cases h5 : s[k].toNat = 45
          · have h6 : ((s[k].toNat : Int) != 45) = false := by simp; omega
            have HY := Lib.hid (okr_yes (r := (s[k].toNat : Int)) (by omega))
            have H5 := Lib.hid h5; clear h5 hc
            have h1' : decide ((s[k].toNat : Int) < 97) = true := by simp; omega
            have h3' : decide ((s[k].toNat : Int) < 48) = true := by simp; omega
            go_wp2
            go_round
            case rel => exact ⟨k + 1, by go_num, by omega, HN.out HY.out⟩
            case measure => simp [intOf]; omega
          · have h6 : ((s[k].toNat : Int) != 45) = true := by simp; omega
            have HY := Lib.hid (HB.out (okr_no (r := (s[k].toNat : Int)) (by omega)))
            have H5 := Lib.hid h5; clear h5 hc
            go_wp2
            go_ret
            exact ⟨by rw [HY.out]; rfl, rfl⟩
        · by_cases h4 : 57 < s[k].toNat
          · have h6 : ((s[k].toNat : Int) != 45) = true := by simp; omega
            have HY := Lib.hid (HB.out (okr_no (r := (s[k].toNat : Int)) (by omega)))
            clear hc
            go_wp2
            go_ret
            exact ⟨by rw [HY.out]; rfl, rfl⟩
          · have HY := Lib.hid (okr_yes (r := (s[k].toNat : Int)) (by omega))
            clear hc
            go_wp2
            go_round
            case rel => exact ⟨k + 1, by go_num, by omega, HN.out HY.out⟩
            case measure => simp [intOf]; omega
      · by_cases h2 : 122 < s[k].toNat
        · have h6 : ((s[k].toNat : Int) != 45) = true := by simp; omega
          have HY := Lib.hid (HB.out (okr_no (r := (s[k].toNat : Int)) (by omega)))
          have h3 : ¬ s[k].toNat < 48 := by omega
          have h4 : 57 < s[k].toNat := by omega
          clear hc
          go_wp2
          go_ret
          exact ⟨by rw [HY.out]; rfl, rfl⟩
        · have HY := Lib.hid (okr_yes (r := (s[k].toNat : Int)) (by omega))
          clear hc
          go_wp2
          go_round
          case rel => exact ⟨k + 1, by go_num, by omega, HN.out HY.out⟩
          case measure => simp [intOf]; omega
    · obtain rfl : k = s.size := by omega
      have ha := HA.out
      rw [List.take_of_length_le (by have := HSZ.out; omega)] at ha
      by_cases h1 : 1 ≤ s.size
      · by_cases h2 : s.size ≤ 32
        · have HV := Lib.hid (vol_all s.data.toList (by have := HSZ.out; omega) ha)
          clear ha
          go_wp2
          go_ret
          exact ⟨by rw [HV.out]; exact ret_bool (by simp; omega), rfl⟩
        · have HV := Lib.hid (vol_long s.data.toList (by have := HSZ.out; omega))
          clear ha
          go_wp2
          go_ret
          exact ⟨by rw [HV.out]; exact ret_bool (by simp; omega), rfl⟩
      · have HV := Lib.hid (vol_long s.data.toList (by have := HSZ.out; omega))
        clear ha
        go_wp2
        go_ret
        exact ⟨by rw [HV.out]; exact ret_bool (by simp; try omega), rfl⟩

/-- May a number be? -/
def nump (n : Int) : Bool := decide (0 ≤ n ∧ n < 1099511627776)

set_option maxHeartbeats 1000000 in
set_option maxRecDepth 100000 in
theorem number_any (n : Int) (w : World) :
    Calls Try.prog 66 #[.int .i64 n] w fun e w' => e = .returned (.bool (nump n)) ∧ w = w' := by
  by_cases h0 : 0 ≤ n
  · by_cases h1 : n < 1099511627776
    · have HV : Hid (nump n = true) := decide_eq_true ⟨h0, h1⟩
      go_enter Try.func66, Try.ntmps66
      go_wp2
      go_ret
      exact ⟨by rw [HV.out]; exact ret_bool (by simp; try omega), rfl⟩
    · have HV : Hid (nump n = false) := decide_eq_false (fun h => h1 h.2)
      go_enter Try.func66, Try.ntmps66
      go_wp2
      go_ret
      exact ⟨by rw [HV.out]; exact ret_bool (by simp; try omega), rfl⟩
  · have HV : Hid (nump n = false) := decide_eq_false (fun h => h0 h.1)
    go_enter Try.func66, Try.ntmps66
    go_wp2
    go_ret
    exact ⟨by rw [HV.out]; exact ret_bool (by simp; try omega), rfl⟩

set_option maxHeartbeats 1000000 in
set_option maxRecDepth 100000 in
theorem rnumber_any (n : Int) (w : World) :
    Calls Try.prog 39 #[.int .i64 n] w fun e w' => e = .returned (.bool (nump n)) ∧ w = w' := by
  by_cases h0 : 0 ≤ n
  · by_cases h1 : n < 1099511627776
    · have HV : Hid (nump n = true) := decide_eq_true ⟨h0, h1⟩
      go_enter Try.func39, Try.ntmps39
      go_wp2
      go_ret
      exact ⟨by rw [HV.out]; exact ret_bool (by simp; try omega), rfl⟩
    · have HV : Hid (nump n = false) := decide_eq_false (fun h => h1 h.2)
      go_enter Try.func39, Try.ntmps39
      go_wp2
      go_ret
      exact ⟨by rw [HV.out]; exact ret_bool (by simp; try omega), rfl⟩
  · have HV : Hid (nump n = false) := decide_eq_false (fun h => h0 h.1)
    go_enter Try.func39, Try.ntmps39
    go_wp2
    go_ret
    exact ⟨by rw [HV.out]; exact ret_bool (by simp; try omega), rfl⟩

/-- May a base be of a volume? -/
def mayB (bv : ByteArray) (bs : Int) (v : ByteArray) : Bool :=
  (decide (bv.data.toList = []) && decide (bs = 0)) || (vol bv.data.toList && decide (bv ≠ v) && nump bs)

theorem volE_yes {l : List UInt8} (h : vol l = true) : volE l = 0 := by unfold volE; rw [if_pos h]
theorem volE_no {l : List UInt8} (h : vol l = false) : volE l = 1 := by unfold volE; rw [h]; rfl

/-- A cell of the block that was just laid, behind a call that keeps what was there. -/
theorem kept_new {w w1 : World} {c : Array Value} {e : TypeId} (hb : Below (w.alloc (.cells c e)).heap.size (w.alloc (.cells c e)) w1) (i : Nat) : w1.cell? ⟨w.heap.size, i, none⟩ = c[i]? := by
  rw [hb.cell (by simp), World.cell?_alloc_at (hn := rfl)]

theorem nil_of_toList {s : ByteArray} (h : s.toList = []) : s.data.toList = [] := by rw [← ByteArray.toList_eq]; exact h
theorem toList_ne {s : ByteArray} (h : ¬ s.toList = []) : ¬ s.data.toList = [] := by rw [← ByteArray.toList_eq]; exact h

theorem alloc_trans {w w1 : World} {o : Obj} (hb : Below (w.alloc o).heap.size (w.alloc o) w1) : Below w.heap.size w w1 :=
  ((Below.refl _ w).alloc (Nat.le_refl _) _).trans (hb.mono (by simp))

set_option maxHeartbeats 1000000 in
set_option maxRecDepth 100000 in
theorem may_any (bv v : ByteArray) (bs : Int) (w : World) (hs : bv.size ≤ 140737488351232) :
    Calls Try.prog 65 #[.agg #[.string bv, .int .i64 bs], .string v] w fun e w' => e = .returned (.bool (mayB bv bs v)) ∧ Below w.heap.size w w' := by
  have rest : ¬ (bv.toList = [] ∧ bs = 0) → mayB bv bs v = (vol bv.data.toList && decide (bv ≠ v) && nump bs) := by
    intro h
    unfold mayB
    have : (decide (bv.data.toList = []) && decide (bs = 0)) = false := by
      rw [Bool.and_eq_false_iff, decide_eq_false_iff_not, decide_eq_false_iff_not, ← ByteArray.toList_eq]
      by_cases h1 : bv.toList = []
      · exact .inr (fun h2 => h ⟨h1, h2⟩)
      · exact .inl h1
    rw [this, Bool.false_or]
  have hlater : ∀ h : ¬ (bv.toList = [] ∧ bs = 0), Calls Try.prog 65 #[.agg #[.string bv, .int .i64 bs], .string v] w fun e w' => e = .returned (.bool (mayB bv bs v)) ∧ Below w.heap.size w w' := by
    intro h
    have HR := Lib.hid (rest h)
    have hV := volume_any bv (w.alloc (.cells #[.string bv, .int .i64 bs] 26)) hs
    have hcase : (bv.toList = [] ∧ ¬ bs = 0) ∨ ¬ bv.toList = [] := by
      by_cases h1 : bv.toList = []
      · exact .inl ⟨h1, fun h2 => h ⟨h1, h2⟩⟩
      · exact .inr h1
    have HV := Lib.hid hV
    clear hV rest h
    cases hv : vol bv.data.toList with
    | false =>
      rw [hv] at HR
      rcases hcase with ⟨a1, a2⟩ | a1
      all_goals
        go_enter Try.func65, Try.ntmps65
        go_wp2_with fail
        refine HV.out.mono ?_
        rintro e w1 ⟨rfl, hb⟩
        rw [volE_no hv]
        have A1 := Lib.hid a1
        clear hv a1
        go_wp2
        go_ret
        exact ⟨by rw [HR.out]; rfl, alloc_trans hb⟩
    | true =>
      rw [hv] at HR
      by_cases heq : bv = v
      · have HQ : Hid (mayB bv bs v = false) := by show _ = _; rw [HR.out]; simp [heq]
        have hq : (!bv.toList == v.toList) = false := by rw [beq_toList]; simp [heq]
        have HE := Lib.hid heq
        clear heq
        rcases hcase with ⟨a1, a2⟩ | a1
        all_goals
          go_enter Try.func65, Try.ntmps65
          go_wp2_with fail
          refine HV.out.mono ?_
          rintro e w1 ⟨rfl, hb⟩
          rw [volE_yes hv]
          have A1 := Lib.hid a1
          clear hv a1
          have hc0 := kept_new hb 0
          have hc1 := kept_new hb 1
          simp only [List.getElem?_toArray, List.getElem?_cons_zero, List.getElem?_cons_succ] at hc0 hc1
          go_wp2
          go_ret
          exact ⟨by rw [HQ.out]; rfl, alloc_trans hb⟩
      · have HQ : Hid (mayB bv bs v = nump bs) := by show _ = _; rw [HR.out]; simp [heq]
        have hq : (!bv.toList == v.toList) = true := by rw [beq_toList]; simp [heq]
        clear heq
        rcases hcase with ⟨a1, a2⟩ | a1
        all_goals
          go_enter Try.func65, Try.ntmps65
          go_wp2_with fail
          refine HV.out.mono ?_
          rintro e w1 ⟨rfl, hb⟩
          rw [volE_yes hv]
          have A1 := Lib.hid a1
          clear hv a1
          have hc0 := kept_new hb 0
          have hc1 := kept_new hb 1
          simp only [List.getElem?_toArray, List.getElem?_cons_zero, List.getElem?_cons_succ] at hc0 hc1
          go_wp2_with fail
          refine (number_any bs _).mono ?_
          rintro e w2 ⟨rfl, rfl⟩
          go_wp2
          go_ret
          exact ⟨by rw [HQ.out]; rfl, alloc_trans hb⟩
  by_cases h : bv.toList = [] ∧ bs = 0
  · obtain ⟨h1, h2⟩ := h
    have HQ : Hid (mayB bv bs v = true) := by show _ = _; unfold mayB; rw [nil_of_toList h1, h2]; rfl
    clear rest hlater
    go_enter Try.func65, Try.ntmps65
    go_wp2
    go_ret
    exact ⟨by rw [HQ.out]; rfl, (Below.refl _ w).alloc (Nat.le_refl _) _⟩
  · exact hlater h
end Go.Proofs.Ytmkcphelmgkipaa

/- A range over a function whose iterator keeps state of its own in new blocks: what each of the two parties keeps of the other's, told by numbers of blocks. Under the wide fence. -/
namespace Go.Proofs.Ytmkcphelmgkipaa
open Go Go.RowKit

/-- From W to W' the blocks that X names alone may have turned, and there may be new ones. -/
structure KeepsBut (X : Nat → Prop) (W W' : World) : Prop where
  os : W'.os = W.os
  tape : W'.tape = W.tape
  output : W'.output = W.output
  size : W.heap.size ≤ W'.heap.size
  block : ∀ k, k < W.heap.size → ¬ X k → W'.heap[k]? = W.heap[k]?

theorem KeepsBut.refl (X : Nat → Prop) (W : World) : KeepsBut X W W := ⟨rfl, rfl, rfl, Nat.le_refl _, fun _ _ _ => rfl⟩
theorem KeepsBut.trans {X : Nat → Prop} {A B C : World} (h : KeepsBut X A B) (k : KeepsBut X B C) : KeepsBut X A C :=
  ⟨k.os.trans h.os, k.tape.trans h.tape, k.output.trans h.output, Nat.le_trans h.size k.size, fun i hi hx => (k.block i (Nat.lt_of_lt_of_le hi h.size) hx).trans (h.block i hi hx)⟩
theorem KeepsBut.mono {X Y : Nat → Prop} {A B : World} (h : KeepsBut X A B) (hxy : ∀ k, X k → Y k) : KeepsBut Y A B :=
  ⟨h.os, h.tape, h.output, h.size, fun i hi hx => h.block i hi (fun e => hx (hxy i e))⟩
theorem KeepsBut.of_below {X : Nat → Prop} {A B : World} (h : Below A.heap.size A B) : KeepsBut X A B := ⟨h.os, h.tape, h.output, h.size, fun i hi _ => h.block i hi⟩
theorem KeepsBut.below {X : Nat → Prop} {n : Nat} {A B : World} (h : KeepsBut X A B) (hx : ∀ k, X k → n ≤ k) (hn : n ≤ A.heap.size) : Below n A B :=
  ⟨h.os, h.tape, h.output, h.size, fun i hi => h.block i (by omega) (fun e => by have := hx i e; omega)⟩
theorem KeepsBut.setCell {X : Nat → Prop} (W : World) {p : Addr} (hp : X p.block) (u : Value) : KeepsBut X W (W.setCell p u) :=
  ⟨rfl, rfl, rfl, by simp [World.setCell], fun k _ hx => Below.heap_setCell _ _ _ _ (fun e => hx (e ▸ hp))⟩
theorem KeepsBut.putObj {X : Nat → Prop} (W : World) {l : Nat} (hl : X l) (o : Obj) : KeepsBut X W (W.putObj l o) :=
  ⟨rfl, rfl, rfl, by simp, fun k _ hx => World.putObj_heap_other (fun e => hx (e ▸ hl))⟩
theorem KeepsBut.cell {X : Nat → Prop} {A B : World} (h : KeepsBut X A B) {p : Addr} (hp : p.block < A.heap.size) (hx : ¬ X p.block) : B.cell? p = A.cell? p := World.cell?_of_block (h.block _ hp hx)
theorem KeepsBut.frozen {X : Nat → Prop} {A B : World} (h : KeepsBut X A B) {p : Addr} (hp : p.block < A.heap.size) (hx : ¬ X p.block) : B.frozen? p = A.frozen? p := World.frozen?_of_block (h.block _ hp hx)

theorem below_putObj {n : Nat} {A W : World} (h : Below n A W) {l : Nat} (hl : n ≤ l) (o : Obj) : Below n A (W.putObj l o) :=
  h.trans ⟨rfl, rfl, rfl, by simp, fun k hk => World.putObj_heap_other (by omega)⟩

/-- The iterator's contract. 'ok k': the iterator does not mind if a round turns block k. -/
def SeqX {α : Type} (P : Program) (g : Nat) (lb : Array Value) (encs : α → Array Value) (ok : Nat → Prop) (S Sp : List α → Prop) (N : Nat) (w : World) : Prop :=
  ∀ (n l : Nat) (X : Nat → Prop) (J Jx : List α → World → Prop) (W : World), Below w.heap.size w W → (∀ k, X k → ok k ∧ k < W.heap.size) →
    (∀ s A B, J s A → Below W.heap.size A B → J s B) → (∀ s A B, Jx s A → Below W.heap.size A B → Jx s B) →
    (∀ pre x W1, J pre W1 → pre.length < N → W.heap.size ≤ W1.heap.size → YieldAt Fence.wide (n - 1) P l (encs x) W1 fun e W' =>
      (e = .returned (.bool true) ∧ J (pre ++ [x]) W' ∧ KeepsBut X W1 W') ∨ (e = .returned (.bool false) ∧ Jx (pre ++ [x]) W')) →
    J [] W →
    CallsIn Fence.wide n P g (#[.func (.yield l) #[] #[]] ++ lb) W fun e W' => (∃ v, e = .returned v) ∧ ((∃ xs, S xs ∧ J xs W') ∨ (∃ pre, Sp pre ∧ Jx pre W'))

/-- How the body of a round may be left. -/
def ownPostX {α : Type} (X : Nat → Prop) (I : List α → World → Prop) (Ix : Code → List α → World → Prop) (xs : List α) (W : World) : Exit → Act → World → Prop
  | .normal, _, W' => KeepsBut X W W' ∧ I xs W'
  | .ret, _, W' => KeepsBut X W W' ∧ Ix .ret xs W'
  | .exit id, _, W' => KeepsBut X W W' ∧ Ix (.exit id) xs W'
  | .goto t, _, W' => KeepsBut X W W' ∧ Ix (.goto t) xs W'
  | .panic _, _, _ => False
  | .outgrown, _, _ => False

theorem wide_round : Fence.wide.round = none := rfl

theorem wpIn_rangeFunc_X {α : Type} {n : Nat} {P : Program} {g : Operand} {ps : Array Tmp} {assign body : Code} {Q : Exit → Act → World → Prop} {a : Act} {w : World}
    {gf : Nat} {lb : Array Value} (hg : a.eval g = .func (.func gf) #[] lb) (eg : ∀ args w, (callFunc gf args).run P w = .ok (.enter gf args) w)
    {encs : α → Array Value} {ok : Nat → Prop} {S Sp : List α → Prop} {N : Nat} (hseq : SeqX P gf lb encs ok S Sp N w) (hok : ∀ k, w.heap.size ≤ k → ok k) (hps : ∀ x, (encs x).size = ps.size)
    (X : Nat → Prop) (hX : ∀ k, X k → ok k ∧ k < w.heap.size)
    (I : List α → World → Prop) (Ix : Code → List α → World → Prop) (hI : ∀ s A B, I s A → Below w.heap.size A B → I s B) (hIx : ∀ c s A B, Ix c s A → Below w.heap.size A B → Ix c s B) (h0 : I [] w)
    (Ax : Array Value → List α → α → Act → World → Prop) (hAx : ∀ T pre x a' A B, Ax T pre x a' A → (∀ k, k ≠ w.heap.size + 1 → B.heap[k]? = A.heap[k]?) → Ax T pre x a' B)
    (hassign : ∀ pre x W (K : Act → World → Prop), I pre W → w.heap.size + 2 ≤ W.heap.size → (∀ a' W', Below W.heap.size W W' → Ax a.tmps pre x a' W' → K a' W') →
      assign.wpIn (Fence.wide.inRound (w.heap.size + 1)) (n - 1 - 1) P (Exit.then K (fun _ _ _ => False)) { tmps := (ps.zip (encs x)).foldl (fun t (p, v) => t.setIfInBounds p v) a.tmps, defers := [] } W)
    (hbody : ∀ pre x a' W, I pre W → pre.length < N → w.heap.size + 2 ≤ W.heap.size → Ax a.tmps pre x a' W → body.wpIn (Fence.wide.inRound (w.heap.size + 1)) (n - 1 - 1) P (ownPostX X I Ix (pre ++ [x]) W) a' W)
    (hdone : ∀ (D : Nat) (xs : List α) (W : World), w.heap.size ≤ D → S xs → I xs W → W.heap[D]? = some (.deferred (some [])) → Q .normal { a with defers := { target := .collected D, args := #[] } :: a.defers } W)
    (hstop : ∀ (D : Nat) (c : Code) (pre : List α) (W : World), w.heap.size ≤ D → Sp pre → Ix c pre W → W.heap[D]? = some (.deferred (some [])) → c.wpIn Fence.wide n P Q { a with defers := { target := .collected D, args := #[] } :: a.defers } W) :
    (Code.rangeFunc g ps assign body).wpIn Fence.wide n P Q a w := by
  refine wpIn_rangeFunc ?_
  intro fn hfn
  rw [wide_round]
  obtain ⟨rec, hrec⟩ : ∃ rec : LoopState → Option Code → Loop, rec = fun st pe => { state := st, pending := pe, fn, tmps := a.tmps, params := ps, assign, body, defers := w.heap.size } := ⟨_, rfl⟩
  obtain ⟨W1, hW1⟩ : ∃ W1, (w.alloc (.deferred (some []))).alloc (.loop (rec .ready none)) = W1 := ⟨_, rfl⟩
  have hs1 : W1.heap.size = w.heap.size + 2 := by rw [← hW1]; simp
  have hL1 : W1.heap[w.heap.size + 1]? = some (.loop (rec .ready none)) := by
    rw [← hW1]; have := World.alloc_heap_new (w.alloc (.deferred (some []))) (.loop (rec .ready none)); rwa [World.size_alloc] at this
  have hK1 : W1.heap[w.heap.size]? = some (.deferred (some [])) := by
    rw [← hW1]; exact (Below.heap_alloc _ _ _ (by simp)).trans (World.alloc_heap_new w _)
  have hb1 : Below w.heap.size w W1 := by
    rw [← hW1]; exact ((Below.refl _ w).alloc (Nat.le_refl _) _).alloc (by simp) _
  refine ⟨w.heap.size + 1, [{ target := .collected w.heap.size, args := #[] }], W1, { target := .fn (.func gf) lb, args := #[.func (.yield (w.heap.size + 1)) #[] #[]] }, W1, gf,
    #[.func (.yield (w.heap.size + 1)) #[] #[]] ++ lb, W1, ?_, ?_, ?_, ?_, fun h => by simp [Fence.wide] at h, ?_⟩
  · rw [← hW1, hrec]; exact run_enterLoop_outer _ _ _ _ _
  · simp only [resolve, hg]
    simp [go_sem]
  · intro f' _; trivial
  · simp [invoke, go_sem, eg]
  · refine (hseq (n - 1) (w.heap.size + 1) (fun k => X k ∨ k = w.heap.size ∨ k = w.heap.size + 1)
      (fun pre W => I pre W ∧ W.heap[w.heap.size + 1]? = some (.loop (rec .ready none)) ∧ W.heap[w.heap.size]? = some (.deferred (some [])))
      (fun pre W => ∃ c, Ix c pre W ∧ W.heap[w.heap.size + 1]? = some (.loop (rec .done (some c))) ∧ W.heap[w.heap.size]? = some (.deferred (some [])))
      W1 hb1 ?_ ?_ ?_ ?_ ⟨hI _ _ _ h0 hb1, hL1, hK1⟩).mono ?_
    · rintro k (h | h | h)
      · have := hX k h; exact ⟨this.1, by omega⟩
      · exact ⟨hok k (by omega), by omega⟩
      · exact ⟨hok k (by omega), by omega⟩
    · rintro s A B ⟨h1, h2, h3⟩ hb
      exact ⟨hI _ _ _ h1 (hb.mono (by omega)), (hb.block _ (by omega)).trans h2, (hb.block _ (by omega)).trans h3⟩
    · rintro s A B ⟨c, h1, h2, h3⟩ hb
      exact ⟨c, hIx _ _ _ _ h1 (hb.mono (by omega)), (hb.block _ (by omega)).trans h2, (hb.block _ (by omega)).trans h3⟩
    · rintro pre x W ⟨hi, hl, hk⟩ hlen hsz
      have hy := run_yield (P := P) (args := encs x) hl (by rw [hrec]; exact hps x)
      rw [hrec] at hy
      refine ⟨fn, _, assign, body, hy, roundIn_of_wpIn hfn (hassign pre x W _ hi (by omega) ?_)⟩
      intro a' W' hB hax
      have hl' : W'.heap[w.heap.size + 1]? = some (.loop (rec .ready none)) := (hB.block _ (by omega)).trans hl
      have hk' : W'.heap[w.heap.size]? = some (.deferred (some [])) := (hB.block _ (by omega)).trans hk
      have hlt' : w.heap.size + 1 < W'.heap.size := by have := hB.size; omega
      refine ⟨_, run_beginRound hl' (by rw [hrec]), ?_⟩
      have hl2 : (W'.putObj (w.heap.size + 1) (.loop { rec .ready none with state := .busy })).heap[w.heap.size + 1]? = some (.loop { rec .ready none with state := .busy }) := World.putObj_heap_same hlt'
      have hk2 : (W'.putObj (w.heap.size + 1) (.loop { rec .ready none with state := .busy })).heap[w.heap.size]? = some (.deferred (some [])) := (World.putObj_heap_other (by omega)).trans hk'
      have hi2 : I pre (W'.putObj (w.heap.size + 1) (.loop { rec .ready none with state := .busy })) := hI _ _ _ hi (below_putObj (hB.mono (by omega)) (by omega) _)
      have hax2 := hAx a.tmps pre x a' W' (W'.putObj (w.heap.size + 1) (.loop { rec .ready none with state := .busy })) hax (fun k hk => World.putObj_heap_other hk)
      refine wpIn_mono (hbody pre x a' _ hi2 hlen (by simp; omega) hax2) ?_
      have fin : ∀ (jump : Option Code) (W3 : World), KeepsBut X (W'.putObj (w.heap.size + 1) (.loop { rec .ready none with state := .busy })) W3 →
          (Instr.endRound (w.heap.size + 1) jump).run P W3 = .ok (.bool jump.isNone) (W3.putObj (w.heap.size + 1) (.loop (rec (if jump.isNone then .ready else .done) jump))) ∧
          (W3.putObj (w.heap.size + 1) (.loop (rec (if jump.isNone then .ready else .done) jump))).heap[w.heap.size + 1]? = some (.loop (rec (if jump.isNone then .ready else .done) jump)) ∧
          (W3.putObj (w.heap.size + 1) (.loop (rec (if jump.isNone then .ready else .done) jump))).heap[w.heap.size]? = some (.deferred (some [])) ∧
          KeepsBut (fun k => X k ∨ k = w.heap.size ∨ k = w.heap.size + 1) W (W3.putObj (w.heap.size + 1) (.loop (rec (if jump.isNone then .ready else .done) jump))) ∧
          Below w.heap.size W3 (W3.putObj (w.heap.size + 1) (.loop (rec (if jump.isNone then .ready else .done) jump))) := fun jump W3 hk3 => by
        have nX : ∀ k, w.heap.size ≤ k → ¬ X k := fun k hk hx => by have := (hX k hx).2; omega
        have hl3 := (hk3.block (w.heap.size + 1) (by simp; omega) (nX _ (by omega))).trans hl2
        have hk4 := (hk3.block w.heap.size (by simp; omega) (nX _ (by omega))).trans hk2
        have := run_endRound (P := P) jump hl3
        refine ⟨?_, World.putObj_heap_same (Array.getElem?_eq_some_iff.1 hl3).1, (World.putObj_heap_other (by omega)).trans hk4, ?_, below_putObj (Below.refl _ _) (by omega) _⟩
        · rw [hrec] at this ⊢; exact this
        · exact (((KeepsBut.of_below hB).trans (KeepsBut.putObj W' (.inr (.inr rfl)) _)).trans (hk3.mono fun k hk => .inl hk)).trans (KeepsBut.putObj W3 (.inr (.inr rfl)) _)
      rintro e a3 W3 hp
      cases e with
      | normal =>
        obtain ⟨hk3, hi3⟩ := hp
        obtain ⟨hr, hl4, hk4, hkb, hbw⟩ := fin none W3 hk3
        exact ⟨_, _, hr, .inl ⟨rfl, ⟨hI _ _ _ hi3 hbw, hl4, hk4⟩, hkb⟩⟩
      | ret =>
        obtain ⟨hk3, hi3⟩ := hp
        obtain ⟨hr, hl4, hk4, hkb, hbw⟩ := fin (some .ret) W3 hk3
        exact ⟨_, _, hr, .inr ⟨rfl, .ret, hIx _ _ _ _ hi3 hbw, hl4, hk4⟩⟩
      | exit id =>
        obtain ⟨hk3, hi3⟩ := hp
        obtain ⟨hr, hl4, hk4, hkb, hbw⟩ := fin (some (.exit id)) W3 hk3
        exact ⟨_, _, hr, .inr ⟨rfl, .exit id, hIx _ _ _ _ hi3 hbw, hl4, hk4⟩⟩
      | goto t =>
        obtain ⟨hk3, hi3⟩ := hp
        obtain ⟨hr, hl4, hk4, hkb, hbw⟩ := fin (some (.goto t)) W3 hk3
        exact ⟨_, _, hr, .inr ⟨rfl, .goto t, hIx _ _ _ _ hi3 hbw, hl4, hk4⟩⟩
      | panic ch => exact hp.elim
      | outgrown => exact hp.elim
    · rintro e W2 ⟨⟨v, rfl⟩, (⟨xs, hS, hi, hl, hk⟩ | ⟨pre, hSp, c, hi, hl, hk⟩)⟩
      · exact ⟨none, _, by have := run_endLoop (P := P) hl (by rw [hrec]; simp); rw [hrec] at this; exact this, hdone _ xs _ (Nat.le_refl _) hS (hI _ _ _ hi (below_putObj (Below.refl _ _) (by omega) _)) ((World.putObj_heap_other (by omega)).trans hk)⟩
      · exact ⟨some c, _, by have := run_endLoop (P := P) hl (by rw [hrec]; simp); rw [hrec] at this; exact this, hstop _ c pre _ (Nat.le_refl _) hSp (hIx _ _ _ _ hi (below_putObj (Below.refl _ _) (by omega) _)) ((World.putObj_heap_other (by omega)).trans hk)⟩

end Go.Proofs.Ytmkcphelmgkipaa

namespace Go.Proofs.Ytmkcphelmgkipaa
open Go.RowKit Go.Shelf
attribute [local go_sem] Oper.semAt_some

theorem KeepsBut.later {X : Nat → Prop} {A B C : World} (h : KeepsBut X A B) (k : Below A.heap.size B C) : KeepsBut X A C :=
  ⟨k.os.trans h.os, k.tape.trans h.tape, k.output.trans h.output, Nat.le_trans h.size k.size, fun i hi hx => (k.block i hi).trans (h.block i hi hx)⟩

/-- A snapshot. -/
structure Snp where
  name : ByteArray
  seq : Int
  upto : Int

/-- The zero one. -/
def Snp.zero : Snp := ⟨⟨#[]⟩, 0, 0⟩
def Snp.val (x : Snp) : Value := .agg #[.string x.name, .int .i64 x.seq, .int .i64 x.upto]

/-- The slice value sv holds the snapshots l. -/
def SnapsAt (w : World) (sv : Value) (l : List Snp) : Prop :=
  ∃ a cap, sv = .slice a l.length cap ∧ ∀ i, i < l.length → ∃ b off, a = some ⟨b, off, none⟩ ∧
    w.cell? ⟨b, off + i * 3, none⟩ = some (.string (l.getD i Snp.zero).name) ∧ w.cell? ⟨b, off + i * 3 + 1, none⟩ = some (.int .i64 (l.getD i Snp.zero).seq) ∧ w.cell? ⟨b, off + i * 3 + 2, none⟩ = some (.int .i64 (l.getD i Snp.zero).upto)

/-- Each of the first k snapshots, with the one ahead. -/
def prs (l : List Snp) : Nat → List (Snp × Snp)
  | 0 => []
  | k + 1 => prs l k ++ [((if k = 0 then Snp.zero else l.getD (k - 1) Snp.zero), l.getD k Snp.zero)]
theorem prs_length (l : List Snp) (k : Nat) : (prs l k).length = k := by induction k <;> simp [prs, *]

set_option maxHeartbeats 1000000 in
set_option maxRecDepth 100000 in
theorem pairs_any (a : Option Addr) (len cap : Nat) (w : World) :
    Calls Try.prog 67 #[.slice a len cap] w fun e w' => e = .returned (.func (.func 84) #[] #[.pointer (some ⟨w.heap.size, 0, none⟩)]) ∧ w' = w.alloc (.cells #[.slice a len cap] 27) := by
  go_enter Try.func67, Try.ntmps67
  go_wp2
  go_ret
  exact ⟨rfl, rfl⟩

set_option maxHeartbeats 2000000 in
set_option maxRecDepth 100000 in
theorem pairs_seq (Bs cap : Nat) (a : Option Addr) (l : List Snp) (w : World) (hlen : l.length ≤ 140737488351232) (hBs : w.cell? ⟨Bs, 0, none⟩ = some (.slice a l.length cap)) (hI : SnapsAt w (.slice a l.length cap) l) :
    SeqX Try.prog 84 #[.pointer (some ⟨Bs, 0, none⟩)] (fun x : Snp × Snp => #[x.1.val, x.2.val]) (fun k => k ≠ Bs ∧ ∀ b off, 0 < l.length → a = some ⟨b, off, none⟩ → k ≠ b)
      (fun ys => ys = prs l l.length) (fun pre => ∃ k, k ≤ l.length ∧ pre = prs l k) l.length w := by
  intro n lp X J Jx W hW hX hJ hJx hY h0
  have hBs' : W.cell? ⟨Bs, 0, none⟩ = some (.slice a l.length cap) := (hW.cell (World.block_lt_of_cell? _ _ hBs)).trans hBs
  have hBlt : Bs < W.heap.size := by have := World.block_lt_of_cell? _ _ hBs'; exact this
  refine callsIn_of_wp Try.func84 rfl trivial ?_ wide_round
  simp only [Try.ntmps84, List.size_toArray, List.length_cons, List.length_nil, Nat.reduceAdd, Nat.reduceSub, Array.replicate_succ, Array.replicate_zero, List.push_toArray, List.append_toArray, List.nil_append, List.cons_append]
  gi_wp2
  gi_loopw [8] (fun i wr => ∃ k : Nat, k ≤ l.length ∧ i = .int .i64 k ∧ J (prs l k) wr ∧ KeepsBut X W wr ∧ W.heap.size < wr.heap.size ∧
      wr.heap[W.heap.size]? = some (.cells #[.string (if k = 0 then Snp.zero else l.getD (k - 1) Snp.zero).name, .int .i64 (if k = 0 then Snp.zero else l.getD (k - 1) Snp.zero).seq, .int .i64 (if k = 0 then Snp.zero else l.getD (k - 1) Snp.zero).upto] 56 (0, 0)))
    (fun i _ => l.length - (intOf i).toNat)
  case atStart =>
    refine ⟨0, Nat.zero_le _, rfl, hJ _ _ _ h0 ((Below.refl _ W).alloc (Nat.le_refl _) _), KeepsBut.of_below ((Below.refl _ W).alloc (Nat.le_refl _) _), by simp, ?_⟩
    exact heap_alloc_new W _
  case round =>
    obtain ⟨k, hk, rfl, hJs, hkb, hsz, hlast⟩ := hrel
    by_cases hlt : k < l.length
    · obtain ⟨px, hpx⟩ : ∃ px, px = (if k = 0 then Snp.zero else l.getD (k - 1) Snp.zero) := ⟨_, rfl⟩
      rw [← hpx] at hlast
      obtain ⟨x, hx⟩ : ∃ x, x = l.getD k Snp.zero := ⟨_, rfl⟩
      have hprs : prs l (k + 1) = prs l k ++ [(px, x)] := by rw [hpx, hx]; rfl
      have hnext : (if k + 1 = 0 then Snp.zero else l.getD (k + 1 - 1) Snp.zero) = x := by rw [hx, if_neg (by omega)]; rfl
      obtain ⟨a', cap', ha, hcs⟩ := hI
      simp only [Value.slice.injEq] at ha
      obtain ⟨rfl, _, rfl⟩ := ha
      obtain ⟨b, off, rfl, hc0, hc1, hc2⟩ := hcs k hlt
      rw [← hx] at hc0 hc1 hc2
      have hbw : b < w.heap.size := World.block_lt_of_cell? _ _ hc0
      have hbX : ¬ X b := fun h => (hX b h).1.2 b off (by omega) rfl rfl
      have hbW : b < W.heap.size := by have := hW.size; omega
      have hd0 := (hkb.cell (p := ⟨b, off + k * 3, none⟩) hbW hbX).trans ((hW.cell (p := ⟨b, off + k * 3, none⟩) hbw).trans hc0)
      have hd1 := (hkb.cell (p := ⟨b, off + k * 3 + 1, none⟩) hbW hbX).trans ((hW.cell (p := ⟨b, off + k * 3 + 1, none⟩) hbw).trans hc1)
      have hd2 := (hkb.cell (p := ⟨b, off + k * 3 + 2, none⟩) hbW hbX).trans ((hW.cell (p := ⟨b, off + k * 3 + 2, none⟩) hbw).trans hc2)
      have he0 : wr.cell? ⟨W.heap.size, 0, none⟩ = some (.string px.name) := by simp [World.cell?, hlast]
      have he1 : wr.cell? ⟨W.heap.size, 1, none⟩ = some (.int .i64 px.seq) := by simp [World.cell?, hlast]
      have he2 : wr.cell? ⟨W.heap.size, 2, none⟩ = some (.int .i64 px.upto) := by simp [World.cell?, hlast]
      have HP := Lib.hid hprs
      have HN := Lib.hid hnext
      have HL := Lib.hid hlast
      have HC := Lib.hid hcs
      have HX := Lib.hid hX
      have HJ := Lib.hid hJ
      have HJX := Lib.hid hJx
      have HKB := Lib.hid hkb
      clear hprs hnext hlast hpx hx hc0 hc1 hc2 hcs
      obtain ⟨fn, tmps, assign, body, hy, hR⟩ := hY _ (px, x) (wr.alloc (.cells #[.string x.name, .int .i64 x.seq, .int .i64 x.upto] 56)) (hJ _ _ _ hJs ((Below.refl W.heap.size wr).alloc (by omega) _)) (by rw [prs_length]; exact hlt) (by simp; omega)
      dsimp only [Snp.val] at hy
      gi_wp2
      refine ⟨fun h => by simp [Fence.wide] at h, ?_⟩
      refine hR.mono ?_
      rintro e W3 (⟨rfl, hJ3, hk3⟩ | ⟨rfl, hJx3⟩)
      · have nL : ¬ X W.heap.size := fun h => by have := (HX.out _ h).2; omega
        have nB : ¬ X wr.heap.size := fun h => by have := (HX.out _ h).2; omega
        have hL3 : W3.heap[W.heap.size]? = some (.cells #[.string px.name, .int .i64 px.seq, .int .i64 px.upto] 56 (0, 0)) := by
          rw [hk3.block _ (by simp; omega) nL, Below.heap_alloc _ _ _ hsz]; exact HL.out
        have hB3 : W3.heap[wr.heap.size]? = some (.cells #[.string x.name, .int .i64 x.seq, .int .i64 x.upto] 56 (0, 0)) := by
          rw [hk3.block _ (by simp) nB]; exact heap_alloc_new wr _
        have f0 : W3.cell? ⟨W.heap.size, 0, none⟩ = some (.string px.name) := by simp [World.cell?, hL3]
        have f1 : W3.cell? ⟨W.heap.size, 1, none⟩ = some (.int .i64 px.seq) := by simp [World.cell?, hL3]
        have f2 : W3.cell? ⟨W.heap.size, 2, none⟩ = some (.int .i64 px.upto) := by simp [World.cell?, hL3]
        have z0 : ∀ j, W3.frozen? ⟨W.heap.size, j, none⟩ = false := by intro j; simp [World.frozen?, hL3]
        have z00 := z0 0
        have z01 := z0 1
        have z02 := z0 2
        have g0 : W3.cell? ⟨wr.heap.size, 0, none⟩ = some (.string x.name) := by simp [World.cell?, hB3]
        have g1 : W3.cell? ⟨wr.heap.size, 1, none⟩ = some (.int .i64 x.seq) := by simp [World.cell?, hB3]
        have g2 : W3.cell? ⟨wr.heap.size, 2, none⟩ = some (.int .i64 x.upto) := by simp [World.cell?, hB3]
        have HL3 := Lib.hid hL3
        have HK3 := Lib.hid hk3
        have HJ3 := Lib.hid hJ3
        have hne : W.heap.size ≠ wr.heap.size := by omega
        clear z0 hL3 hB3 hk3 hJ3
        gi_wp2
        have hbl : Below W.heap.size W3 (((W3.setCell ⟨W.heap.size, 0, none⟩ (.string x.name)).setCell ⟨W.heap.size, 1, none⟩ (.int .i64 x.seq)).setCell ⟨W.heap.size, 2, none⟩ (.int .i64 x.upto)) :=
          (((Below.refl _ W3).setCell (p := ⟨W.heap.size, 0, none⟩) (Nat.le_refl _) _).setCell (p := ⟨W.heap.size, 1, none⟩) (Nat.le_refl _) _).setCell (p := ⟨W.heap.size, 2, none⟩) (Nat.le_refl _) _
        have hk4 := (HKB.out.trans (KeepsBut.of_below ((Below.refl wr.heap.size wr).alloc (Nat.le_refl _) _))).trans HK3.out
        refine ⟨⟨k + 1, by omega, by go_num, by rw [HP.out]; exact HJ.out _ _ _ HJ3.out hbl, hk4.later hbl, ?_, ?_⟩, by simp [intOf]; omega⟩
        · have h1 := HK3.out.size
          have h2 := hbl.size
          simp only [World.size_alloc] at h1
          omega
        · rw [HN.out]
          have e1 := heap_setCell_same W3 W.heap.size 0 _ 56 (.string x.name) HL3.out
          have e2 := heap_setCell_same _ W.heap.size 1 _ 56 (.int .i64 x.seq) e1
          have e3 := heap_setCell_same _ W.heap.size 2 _ 56 (.int .i64 x.upto) e2
          rw [e3]; rfl
      · gi_wp2
        refine bodyPost_ret (results_none rfl _ _ _) rfl ?_
        exact ⟨⟨_, rfl⟩, .inr ⟨_, ⟨k + 1, by omega, rfl⟩, by rw [HP.out]; exact hJx3⟩⟩
    · obtain rfl : k = l.length := by omega
      gi_wp2
      go_end0
      exact ⟨⟨_, rfl⟩, .inl ⟨_, rfl, hJs⟩⟩
end Go.Proofs.Ytmkcphelmgkipaa

namespace Go.Proofs.Ytmkcphelmgkipaa
open Go.RowKit Go.Shelf
attribute [local go_sem] Oper.semAt_some

theorem wide_fn (f : Nat) : Fence.wide.fn f = True := rfl
theorem wide_depth : Fence.wide.depth = none := rfl
attribute [local go_sem] wide_fn wide_depth

/-- A manifest. -/
structure Man where
  vol : ByteArray
  key : Int
  serial : Int
  size : Int
  bvol : ByteArray
  bseq : Int
  snaps : List Snp

def Man.val (m : Man) (sv : Value) : Value := .agg #[.string m.vol, .int .u64 m.key, .int .i64 m.serial, .int .i64 m.size, .string m.bvol, .int .i64 m.bseq, sv]

/-- Is a snapshot's name wrong, behind the one ahead? -/
def nameBad (p : Snp × Snp) : Bool := (Op.bytesLess p.2.name.toList p.1.name.toList || p.2.name.toList == p.1.name.toList) || decide (64 < p.2.name.size)
def numsOk (p : Snp × Snp) : Bool := nump p.2.seq && nump p.2.upto
def right0 (m : Man) : Bool := nump m.serial && decide (1 ≤ m.size) && decide (m.size ≤ 65536)

/-- What is wrong with a manifest. -/
def chk (m : Man) : Int :=
  if (vol m.vol.data.toList && mayB m.bvol m.bseq m.vol) = false then 1
  else if (prs m.snaps m.snaps.length).any nameBad = true then 1
  else if (right0 m && (prs m.snaps m.snaps.length).all numsOk) = false then 31
  else if 100 < m.snaps.length then 32 else 0

/-- Sizes that any value that is read has. -/
structure Fits (m : Man) : Prop where
  vol : m.vol.size ≤ 140737488351232
  bvol : m.bvol.size ≤ 140737488351232
  len : m.snaps.length ≤ 140737488351232
  names : ∀ x ∈ m.snaps, x.name.size ≤ 140737488351232


/-- Two blocks that were just laid, behind a call that keeps what was there. -/
theorem kept_two {w w1 : World} {c d : Array Value} {e f : TypeId} (hb : Below ((w.alloc (.cells c e)).alloc (.cells d f)).heap.size ((w.alloc (.cells c e)).alloc (.cells d f)) w1) :
    w1.heap[w.heap.size]? = some (.cells c e (0, 0)) ∧ w1.heap[w.heap.size + 1]? = some (.cells d f (0, 0)) ∧ Below w.heap.size w w1 ∧ w.heap.size + 1 < w1.heap.size := by
  refine ⟨?_, ?_, ?_, ?_⟩
  · rw [hb.block _ (by simp; omega), Below.heap_alloc _ _ _ (by simp)]; exact heap_alloc_new w _
  · rw [hb.block _ (by simp)]
    have := heap_alloc_new (w.alloc (.cells c e)) (.cells d f)
    rwa [World.size_alloc] at this
  · exact (((Below.refl _ w).alloc (Nat.le_refl _) _).alloc (by simp) _).trans (hb.mono (by simp; omega))
  · have := hb.size; simp at this; omega

theorem cell_of_heap {w : World} {b : Nat} {c : Array Value} {e : TypeId} {fr : Nat × Nat} (h : w.heap[b]? = some (.cells c e fr)) (i : Nat) : w.cell? ⟨b, i, none⟩ = c[i]? := by simp [World.cell?, h]
theorem frozen_of_heap {w : World} {b : Nat} {c : Array Value} {e : TypeId} (h : w.heap[b]? = some (.cells c e (0, 0))) (i : Nat) : w.frozen? ⟨b, i, none⟩ = false := by simp [World.frozen?, h]

theorem chk_one (m : Man) (h : (vol m.vol.data.toList && mayB m.bvol m.bseq m.vol) = false) : chk m = 1 := if_pos h

theorem res33 {A : World} {b : Nat} {n : Int} (hA : A.cell? ⟨b, 0, none⟩ = some (.int .i64 n)) (tmps : Array Value) (ht : tmps[2]? = some (.pointer (some ⟨b, 0, none⟩))) :
    (results Try.f33 tmps).run Try.prog A = .ok (.int .i64 n) A := by
  simp [results, Try.results33, go_sem, ht, hA]

theorem leave0 {n : Nat} {P : Program} {fn : Func} {tmps : Array Value} {R : Ending → World → Prop} {w : World} {v : Value} (hr : (results fn tmps).run P w = .ok v w) (h : R (.returned v) w) :
    bodyPostM Fence.wide n P fn R .ret { tmps := tmps, defers := [] } w := ⟨v, hr, h⟩

theorem leaveD {n D : Nat} {P : Program} {fn : Func} {tmps : Array Value} {R : Ending → World → Prop} {w : World} {v : Value} (hD : w.heap[D]? = some (.deferred (some [])))
    (hr : (results fn tmps).run P (w.putObj D (.deferred none)) = .ok v (w.putObj D (.deferred none))) (h : R (.returned v) (w.putObj D (.deferred none))) :
    bodyPostM Fence.wide n P fn R .ret { tmps := tmps, defers := [{ target := .collected D, args := #[] }] } w :=
  ⟨by simp, .inl ⟨_, _, rfl, run_takeDeferred hD, v, hr, h⟩⟩

set_option maxHeartbeats 2000000 in
set_option maxRecDepth 100000 in
theorem check_one (m : Man) (sv : Value) (w : World) (hf : Fits m) (hbad : (vol m.vol.data.toList && mayB m.bvol m.bseq m.vol) = false) :
    Calls Try.prog 33 #[m.val sv] w fun e w' => e = .returned (.int .i64 (chk m)) ∧ Below w.heap.size w w' := by
  have HC := Lib.hid (chk_one m hbad)
  obtain ⟨v, key, serial, size, bv, bs, l⟩ := m
  obtain ⟨hv, hbv, hlen, hnames⟩ := hf
  simp only [Man.val] at *
  have HV := Lib.hid (volume_any v ((w.alloc (.cells #[.string v, .int .u64 key, .int .i64 serial, .int .i64 size, .string bv, .int .i64 bs, sv] 29)).alloc (.cells #[.int .i64 0] 30)) hv)
  refine (callsIn_wide (n := 4)).1 ?_
  refine callsIn_of_wp_marks Try.func33 rfl trivial ?_ wide_round
  simp only [Try.ntmps33, List.size_toArray, List.length_cons, List.length_nil, Nat.reduceAdd, Nat.reduceSub, Array.replicate_succ, Array.replicate_zero, List.push_toArray, List.append_toArray, List.nil_append, List.cons_append]
  cases hvol : vol v.data.toList with
  | false =>
    clear hbad
    gi_wp2_with fail
    refine (callsIn_wide.2 HV.out).mono ?_
    rintro e w1 ⟨rfl, hb⟩
    rw [volE_no hvol]
    obtain ⟨h1, h2, h3, h4⟩ := kept_two hb
    have c2 := cell_of_heap h2 0
    have f2 := frozen_of_heap h2 0
    clear hvol hb
    simp only [List.getElem?_toArray, List.getElem?_cons_zero] at c2
    have H1 := Lib.hid h1
    have H2 := Lib.hid h2
    clear h1 h2
    gi_wp2
    refine leave0 (res33 (World.cell?_setCell_same' _ _ _ (by rw [c2]; rfl)) _ rfl) ⟨by rw [HC.out], h3.setCell (p := ⟨w.heap.size + 1, 0, none⟩) (by simp) _⟩
  | true =>
    rw [hvol, Bool.true_and] at hbad
    gi_wp2_with fail
    refine (callsIn_wide.2 HV.out).mono ?_
    rintro e w1 ⟨rfl, hb⟩
    rw [volE_yes hvol]
    obtain ⟨h1, h2, h3, h4⟩ := kept_two hb
    have c0 := cell_of_heap h1 0
    have c4 := cell_of_heap h1 4
    have c5 := cell_of_heap h1 5
    clear hvol hb
    simp only [List.getElem?_toArray, List.getElem?_cons_zero, List.getElem?_cons_succ] at c0 c4 c5
    have HB := Lib.hid hbad
    have H2 := Lib.hid h2
    clear hbad h1 h2
    gi_wp2_with fail
    refine (callsIn_wide.2 (may_any bv v bs w1 hbv)).mono ?_
    rintro e w2 ⟨rfl, hb2⟩
    rw [HB.out]
    have c2 := (hb2.cell (p := ⟨w.heap.size + 1, 0, none⟩) h4).trans (cell_of_heap H2.out 0)
    have f2 := (hb2.frozen (p := ⟨w.heap.size + 1, 0, none⟩) h4).trans (frozen_of_heap H2.out 0)
    simp only [List.getElem?_toArray, List.getElem?_cons_zero] at c2
    have h5 : Below w.heap.size w w2 := h3.trans (hb2.mono (by omega))
    clear hb2
    gi_wp2
    refine leave0 (res33 (World.cell?_setCell_same' _ _ _ (by rw [c2]; rfl)) _ rfl) ⟨by rw [HC.out], h5.setCell (p := ⟨w.heap.size + 1, 0, none⟩) (by simp) _⟩
end Go.Proofs.Ytmkcphelmgkipaa

namespace Go.Proofs.Ytmkcphelmgkipaa
open Go.RowKit Go.Shelf
attribute [local go_sem] Oper.semAt_some
attribute [local go_sem] wide_fn wide_depth

theorem SnapsAt.below {w w' : World} {n : Nat} {sv : Value} {l : List Snp} (h : SnapsAt w sv l) (hb : Below n w w') (hn : w.heap.size ≤ n) : SnapsAt w' sv l := by
  obtain ⟨a, cap, e, hc⟩ := h
  refine ⟨a, cap, e, fun i hi => ?_⟩
  obtain ⟨b, off, ha, h0, h1, h2⟩ := hc i hi
  have hbw := World.block_lt_of_cell? _ _ h0
  have hlt : b < n := Nat.lt_of_lt_of_le hbw hn
  exact ⟨b, off, ha, (hb.cell (p := ⟨b, off + i * 3, none⟩) hlt).trans h0, (hb.cell (p := ⟨b, off + i * 3 + 1, none⟩) hlt).trans h1, (hb.cell (p := ⟨b, off + i * 3 + 2, none⟩) hlt).trans h2⟩

theorem prs_mem (l : List Snp) (k n : Nat) (hk : k ≤ n) (p : Snp × Snp) (hp : p ∈ prs l k) : p ∈ prs l n := by
  induction n with
  | zero => have : k = 0 := by omega
            subst this; exact hp
  | succ n ih =>
    by_cases h : k = n + 1
    · subst h; exact hp
    · exact List.mem_append_left _ (ih (by omega))

set_option maxHeartbeats 4000000 in
set_option maxRecDepth 100000 in
theorem check_rest (m : Man) (sv : Value) (w : World) (hf : Fits m) (hS : SnapsAt w sv m.snaps) (hvol : vol m.vol.data.toList = true) (hmay : mayB m.bvol m.bseq m.vol = true) :
    Calls Try.prog 33 #[m.val sv] w fun e w' => e = .returned (.int .i64 (chk m)) ∧ Below w.heap.size w w' := by
  have hcase : (nump m.serial = true ∧ decide (1 ≤ m.size) = true ∧ decide (m.size ≤ 65536) = true ∧ Hid (right0 m = true)) ∨ (nump m.serial = true ∧ decide (1 ≤ m.size) = true ∧ decide (m.size ≤ 65536) = false ∧ Hid (right0 m = false)) ∨ (nump m.serial = true ∧ decide (1 ≤ m.size) = false ∧ True ∧ Hid (right0 m = false)) ∨ (nump m.serial = false ∧ True ∧ True ∧ Hid (right0 m = false)) := by
    unfold right0 Hid
    cases nump m.serial with
    | false => simp
    | true =>
      cases decide (1 ≤ m.size) with
      | false => simp
      | true =>
        cases decide (m.size ≤ 65536) with
        | false => simp
        | true => simp
  obtain ⟨v, key, serial, size, bv, bs, l⟩ := m
  obtain ⟨hv, hbv, hlen, hnames⟩ := hf
  simp only [Man.val] at *
  have HV := Lib.hid (volume_any v ((w.alloc (.cells #[.string v, .int .u64 key, .int .i64 serial, .int .i64 size, .string bv, .int .i64 bs, sv] 29)).alloc (.cells #[.int .i64 0] 30)) hv)
  obtain ⟨a, cap, rfl, hcs⟩ := hS
  have HCS := Lib.hid hcs
  have HVOL := Lib.hid hvol
  have HMAY := Lib.hid hmay
  have HNM := Lib.hid hnames
  clear hcs hvol hmay hnames
  refine (callsIn_wide (n := 4)).1 ?_
  refine callsIn_of_wp_marks Try.func33 rfl trivial ?_ wide_round
  simp only [Try.ntmps33, List.size_toArray, List.length_cons, List.length_nil, Nat.reduceAdd, Nat.reduceSub, Array.replicate_succ, Array.replicate_zero, List.push_toArray, List.append_toArray, List.nil_append, List.cons_append]
  gi_wp2_with fail
  refine (callsIn_wide.2 HV.out).mono ?_
  rintro e w1 ⟨rfl, hb⟩
  rw [volE_yes HVOL.out]
  obtain ⟨h1, h2, h3, h4⟩ := kept_two hb
  have c0 := cell_of_heap h1 0
  have c4 := cell_of_heap h1 4
  have c5 := cell_of_heap h1 5
  clear hb
  simp only [List.getElem?_toArray, List.getElem?_cons_zero, List.getElem?_cons_succ] at c0 c4 c5
  have H1 := Lib.hid h1
  have H2 := Lib.hid h2
  have H3 := Lib.hid h3
  clear h1 h2 h3
  gi_wp2_with fail
  refine (callsIn_wide.2 (may_any bv v bs w1 hbv)).mono ?_
  rintro e w2 ⟨rfl, hb2⟩
  rw [HMAY.out]
  have h5 : Below w.heap.size w w2 := H3.out.trans (hb2.mono (by omega))
  have h6 : w2.heap[w.heap.size]? = _ := (hb2.block _ (by omega)).trans H1.out
  have h7 : w2.heap[w.heap.size + 1]? = _ := (hb2.block _ (by omega)).trans H2.out
  have h8 : w.heap.size + 1 < w2.heap.size := by have := hb2.size; omega
  have h9 : w.heap.size < w2.heap.size := by omega
  clear hb2 c0 c4 c5 h4
  have d2 := cell_of_heap h6 2
  have d3 := cell_of_heap h6 3
  have d6 := cell_of_heap h6 6
  simp only [List.getElem?_toArray, List.getElem?_cons_zero, List.getElem?_cons_succ] at d2 d3 d6
  have H5 := Lib.hid h5
  have H6 := Lib.hid h6
  have H7 := Lib.hid h7
  clear h5 h6 h7
  rcases hcase with ⟨n1, n2, n3, HR⟩ | ⟨n1, n2, n3, HR⟩ | ⟨n1, n2, n3, HR⟩ | ⟨n1, n2, n3, HR⟩
  · gi_wp2_with fail
    refine (callsIn_wide.2 (number_any serial w2)).mono ?_
    rintro e w2 ⟨rfl, rfl⟩
    rw [n1]
    clear n1
    gi_wp2_with fail
    refine (callsIn_wide.2 (pairs_any _ _ _ _)).mono ?_
    rintro e w3 ⟨rfl, rfl⟩
    gi_wp2
    have hSn : SnapsAt w (.slice a l.length cap) l := ⟨a, cap, rfl, HCS.out⟩
    have hb0 : Below w.heap.size w ((w2.alloc (.cells #[.bool true] 4)).alloc (.cells #[.slice a l.length cap] 27)) := (H5.out.alloc (by omega) _).alloc (by simp; omega) _
    have hS0 := hSn.below hb0 (Nat.le_refl _)
    have i1 : ((w2.alloc (.cells #[.bool true] 4)).alloc (.cells #[.slice a l.length cap] 27)).heap[w2.heap.size]? = some (.cells #[.bool true] 4 (0, 0)) := by
      rw [Below.heap_alloc _ _ _ (by simp)]; exact heap_alloc_new w2 _
    have i2 : ((w2.alloc (.cells #[.bool true] 4)).alloc (.cells #[.slice a l.length cap] 27)).heap[w.heap.size + 1]? = some (.cells #[.int .i64 0] 30 (0, 0)) := by
      rw [Below.heap_alloc _ _ _ (by simp; omega), Below.heap_alloc _ _ _ h8]; exact H7.out
    have i5 : ((w2.alloc (.cells #[.bool true] 4)).alloc (.cells #[.slice a l.length cap] 27)).heap[w.heap.size]? = some (.cells #[.string v, .int .u64 key, .int .i64 serial, .int .i64 size, .string bv, .int .i64 bs, .slice a l.length cap] 29 (0, 0)) := by
      rw [Below.heap_alloc _ _ _ (by simp; omega), Below.heap_alloc _ _ _ h9]; exact H6.out
    have i3 : ((w2.alloc (.cells #[.bool true] 4)).alloc (.cells #[.slice a l.length cap] 27)).cell? ⟨w2.heap.size + 1, 0, none⟩ = some (.slice a l.length cap) := by
      rw [World.cell?_alloc_at (hn := by simp)]; rfl
    have i4 : ((w2.alloc (.cells #[.bool true] 4)).alloc (.cells #[.slice a l.length cap] 27)).heap.size = w2.heap.size + 2 := by simp
    have hsb : ∀ b off, a = some ⟨b, off, none⟩ → 0 < l.length → b < w.heap.size := by
      intro b off hab hpos
      obtain ⟨b', off', e, hc, _⟩ := HCS.out 0 hpos
      rw [hab] at e
      simp only [Option.some.injEq, Addr.mk.injEq] at e
      obtain ⟨rfl, rfl, _⟩ := e
      exact World.block_lt_of_cell? _ _ hc
    obtain ⟨W0, hW0⟩ : ∃ W0, W0 = ((w2.alloc (.cells #[.bool true] 4)).alloc (.cells #[.slice a l.length cap] 27)) := ⟨_, rfl⟩
    rw [← hW0] at i1 i2 i3 i4 i5 hb0 hS0 ⊢
    refine wpIn_rangeFunc_X (gf := 84) (lb := #[.pointer (some ⟨w2.heap.size + 1, 0, none⟩)]) rfl (enters_of Try.func84 (by kernel_rfl) rfl)
      (pairs_seq (w2.heap.size + 1) cap a l W0 hlen i3 hS0) ?_ (fun _ => rfl) (fun k => k = w2.heap.size ∨ k = w.heap.size + 1) ?_
      (fun pre W => (∀ p ∈ pre, nameBad p = false) ∧ W.heap[w2.heap.size]? = some (.cells #[.bool (true && pre.all numsOk)] 4 (0, 0)) ∧ W.heap[w.heap.size + 1]? = some (.cells #[.int .i64 0] 30 (0, 0)) ∧ Below w.heap.size w W ∧ W.heap[w.heap.size]? = some (.cells #[.string v, .int .u64 key, .int .i64 serial, .int .i64 size, .string bv, .int .i64 bs, .slice a l.length cap] 29 (0, 0)))
      (fun c pre W => c = .ret ∧ (∃ p ∈ pre, nameBad p = true) ∧ W.heap[w.heap.size + 1]? = some (.cells #[.int .i64 1] 30 (0, 0)) ∧ Below w.heap.size w W)
      ?_ ?_ ⟨by simp, i1, i2, hb0, i5⟩
      (fun T pre x a' W => ∃ b1 b2, a' = { tmps := (((T.setIfInBounds 34 x.1.val).setIfInBounds 35 x.2.val).setIfInBounds 4 (.pointer (some ⟨b1, 0, none⟩))).setIfInBounds 5 (.pointer (some ⟨b2, 0, none⟩)), defers := [] } ∧
        W.heap[b1]? = some (.cells #[.string x.1.name, .int .i64 x.1.seq, .int .i64 x.1.upto] 56 (0, 0)) ∧ W.heap[b2]? = some (.cells #[.string x.2.name, .int .i64 x.2.seq, .int .i64 x.2.upto] 56 (0, 0)) ∧ w2.heap.size + 4 ≤ b1 ∧ w2.heap.size + 4 ≤ b2)
      ?_ ?assign ?body ?done ?stop
    · intro k hk
      exact ⟨by omega, fun b off hpos hab => by have := hsb b off hab hpos; omega⟩
    · rintro k (rfl | rfl)
      · exact ⟨⟨by omega, fun b off hpos hab => by have := hsb b off hab hpos; omega⟩, by omega⟩
      · exact ⟨⟨by omega, fun b off hpos hab => by have := hsb b off hab hpos; omega⟩, by omega⟩
    · rintro s A B ⟨j1, j2, j3, j4, j5⟩ hAB
      exact ⟨j1, (hAB.block _ (by omega)).trans j2, (hAB.block _ (by omega)).trans j3, j4.trans (hAB.mono (by omega)), (hAB.block _ (by omega)).trans j5⟩
    · rintro c s A B ⟨j1, j2, j3, j4⟩ hAB
      exact ⟨j1, j2, (hAB.block _ (by omega)).trans j3, j4.trans (hAB.mono (by omega))⟩
    · rintro T pre x a' A B ⟨b1, b2, j1, j2, j3, j4, j5⟩ hk
      exact ⟨b1, b2, j1, (hk _ (by omega)).trans j2, (hk _ (by omega)).trans j3, j4, j5⟩
    case assign =>
      intro pre x W K hi hsz hK
      simp only [Snp.val]
      gi_wp2
      exact hK _ _ (((Below.refl _ W).alloc (Nat.le_refl _) _).alloc (by simp) _) ⟨W.heap.size, W.heap.size + 1, rfl, by rw [Below.heap_alloc _ _ _ (by simp)]; exact heap_alloc_new W _,
        by have := heap_alloc_new (W.alloc (.cells #[.string x.1.name, .int .i64 x.1.seq, .int .i64 x.1.upto] 56)) (.cells #[.string x.2.name, .int .i64 x.2.seq, .int .i64 x.2.upto] 56); rwa [World.size_alloc] at this, by omega, by omega⟩
    case body =>
      rintro pre x a' W ⟨j1, j2, j3, j4, j5⟩ hlp hsz ⟨b1, b2, rfl, k1, k2, k3, k4⟩
      simp only [List.setIfInBounds_toArray, List.set_cons_succ, List.set_cons_zero, Snp.val]
      have c1 := cell_of_heap k1 0
      have d0 := cell_of_heap k2 0
      have d1 := cell_of_heap k2 1
      have d2' := cell_of_heap k2 2
      have e0 := cell_of_heap j2 0
      have e1 := frozen_of_heap j2 0
      have g0 := cell_of_heap j3 0
      have g1 := frozen_of_heap j3 0
      simp only [List.getElem?_toArray, List.getElem?_cons_zero, List.getElem?_cons_succ] at c1 d0 d1 d2' e0 g0
      have J1 := Lib.hid j1
      have J2 := Lib.hid j2
      have J3 := Lib.hid j3
      have J4 := Lib.hid j4
      have J5 := Lib.hid j5
      clear j1 j2 j3 j4 j5 k1 k2
      cases hc : (Op.bytesLess x.2.name.toList x.1.name.toList || x.2.name.toList == x.1.name.toList) with
      | true =>
        have HX : Hid (nameBad x = true) := by show _ = _; unfold nameBad; rw [hc]; rfl
        gi_wp2
        exact ⟨KeepsBut.setCell W (p := ⟨w.heap.size + 1, 0, none⟩) (.inr rfl) _, rfl, ⟨x, by simp, HX.out⟩, by rw [heap_setCell_same W _ 0 _ 30 _ J3.out]; rfl, J4.out.setCell (p := ⟨w.heap.size + 1, 0, none⟩) (by simp) _⟩
      | false =>
        by_cases h64 : 64 < x.2.name.size
        · have HX : Hid (nameBad x = true) := by show _ = _; unfold nameBad; rw [hc, decide_eq_true h64]; rfl
          gi_wp2
          exact ⟨KeepsBut.setCell W (p := ⟨w.heap.size + 1, 0, none⟩) (.inr rfl) _, rfl, ⟨x, by simp, HX.out⟩, by rw [heap_setCell_same W _ 0 _ 30 _ J3.out]; rfl, J4.out.setCell (p := ⟨w.heap.size + 1, 0, none⟩) (by simp) _⟩
        · have HX : Hid (nameBad x = false) := by show _ = _; unfold nameBad; rw [hc, decide_eq_false h64]; rfl
          have hgoods : ∀ p ∈ pre ++ [x], nameBad p = false := by
            intro p hp
            rcases List.mem_append.1 hp with h | h
            · exact J1.out p h
            · simp only [List.mem_singleton] at h; rw [h]; exact HX.out
          have HG := Lib.hid hgoods
          clear hgoods
          have hst : ∀ (A : Act) (r : Bool), r = (true && (pre ++ [x]).all numsOk) →
              ownPostX (fun k => k = w2.heap.size ∨ k = w.heap.size + 1)
                (fun pre W => (∀ p ∈ pre, nameBad p = false) ∧ W.heap[w2.heap.size]? = some (.cells #[.bool (true && pre.all numsOk)] 4 (0, 0)) ∧ W.heap[w.heap.size + 1]? = some (.cells #[.int .i64 0] 30 (0, 0)) ∧ Below w.heap.size w W ∧ W.heap[w.heap.size]? = some (.cells #[.string v, .int .u64 key, .int .i64 serial, .int .i64 size, .string bv, .int .i64 bs, .slice a l.length cap] 29 (0, 0)))
                (fun c pre W => c = .ret ∧ (∃ p ∈ pre, nameBad p = true) ∧ W.heap[w.heap.size + 1]? = some (.cells #[.int .i64 1] 30 (0, 0)) ∧ Below w.heap.size w W)
                (pre ++ [x]) W Exit.normal A (W.setCell ⟨w2.heap.size, 0, none⟩ (.bool r)) := by
            intro A r hr
            refine ⟨KeepsBut.setCell W (p := ⟨w2.heap.size, 0, none⟩) (.inl rfl) _, HG.out, ?_, ?_, J4.out.setCell (p := ⟨w2.heap.size, 0, none⟩) (by simp; omega) _, ?_⟩
            · rw [heap_setCell_same W _ 0 _ 4 _ J2.out, hr]; rfl
            · rw [Below.heap_setCell _ _ _ _ (by show w.heap.size + 1 ≠ w2.heap.size; omega)]; exact J3.out
            · rw [Below.heap_setCell _ _ _ _ (by show w.heap.size ≠ w2.heap.size; omega)]; exact J5.out
          have HST := Lib.hid hst
          clear hst
          cases hr : (true && pre.all numsOk) with
          | false =>
            have hall : (true && (pre ++ [x]).all numsOk) = false := by rw [Bool.true_and] at hr ⊢; rw [List.all_append, hr]; rfl
            have HA := Lib.hid hall
            rw [hr] at e0
            clear hr hall
            gi_wp2
            exact HST.out _ _ HA.out.symm
          | true =>
            rw [hr] at e0
            cases hn1 : nump x.2.seq with
            | false =>
              have hall : (true && (pre ++ [x]).all numsOk) = false := by rw [Bool.true_and, List.all_append]; simp [numsOk, hn1]
              have HA := Lib.hid hall
              clear hr hall
              gi_wp2_with (gi_at_call 66; refine (CallsIn.inRound _ (callsIn_wide.2 (number_any _ W))).mono ?_; rintro e W ⟨rfl, rfl⟩; rw [hn1])
              exact HST.out _ _ HA.out.symm
            | true =>
              have hall : (true && (pre ++ [x]).all numsOk) = nump x.2.upto := by rw [Bool.true_and] at hr ⊢; rw [List.all_append, hr]; simp [numsOk, hn1]
              have HA := Lib.hid hall
              clear hr hall
              gi_wp2_with fail
              refine (CallsIn.inRound _ (callsIn_wide.2 (number_any _ W))).mono ?_
              rintro e W ⟨rfl, rfl⟩
              rw [hn1]
              clear hn1
              gi_wp2_with fail
              refine (CallsIn.inRound _ (callsIn_wide.2 (number_any _ W))).mono ?_
              rintro e W ⟨rfl, rfl⟩
              gi_wp2
              exact HST.out _ _ HA.out.symm
    case done =>
      rintro D ys W hD rfl ⟨j1, j2, j3, j4, j5⟩ hK
      have e0 := cell_of_heap j2 0
      have g0 := cell_of_heap j3 0
      have g1 := frozen_of_heap j3 0
      have m6 := cell_of_heap j5 6
      simp only [List.getElem?_toArray, List.getElem?_cons_zero, List.getElem?_cons_succ] at e0 g0 m6
      have J1 := Lib.hid j1
      have J3 := Lib.hid j3
      have J4 := Lib.hid j4
      have HK := Lib.hid hK
      have hfin : ∀ n : Int, (W.setCell ⟨w.heap.size + 1, 0, none⟩ (.int .i64 n)).heap[D]? = some (.deferred (some [])) ∧
          ((W.setCell ⟨w.heap.size + 1, 0, none⟩ (.int .i64 n)).putObj D (.deferred none)).cell? ⟨w.heap.size + 1, 0, none⟩ = some (.int .i64 n) ∧
          Below w.heap.size w ((W.setCell ⟨w.heap.size + 1, 0, none⟩ (.int .i64 n)).putObj D (.deferred none)) := by
        intro n
        refine ⟨?_, ?_, below_putObj (J4.out.setCell (p := ⟨w.heap.size + 1, 0, none⟩) (by simp) _) (by omega) _⟩
        · rw [Below.heap_setCell _ _ _ _ (by show D ≠ w.heap.size + 1; omega)]; exact HK.out
        · have := heap_setCell_same W (w.heap.size + 1) 0 _ 30 (.int .i64 n) J3.out
          have h2 : ((W.setCell ⟨w.heap.size + 1, 0, none⟩ (.int .i64 n)).putObj D (.deferred none)).heap[w.heap.size + 1]? = some (.cells #[.int .i64 n] 30 (0, 0)) := by
            rw [World.putObj_heap_other (by omega)]; exact this
          simp [World.cell?, h2]
      have HF := Lib.hid hfin
      have hany : (prs l l.length).any nameBad = false := by rw [List.any_eq_false]; intro p hp; rw [J1.out p hp]; simp
      have HANY := Lib.hid hany
      clear j1 j2 j3 j4 j5 hK hfin hany
      cases hr : (true && (prs l l.length).all numsOk) with
      | false =>
        rw [hr] at e0
        have HC : Hid (chk ⟨v, key, serial, size, bv, bs, l⟩ = 31) := by
          show _ = _
          unfold chk
          dsimp only
          rw [HVOL.out, HMAY.out, if_neg (by simp), if_neg (by rw [HANY.out]; simp), HR.out, if_pos hr]
        clear hr
        gi_wp2
        exact leaveD (HF.out 31).1 (res33 (HF.out 31).2.1 _ rfl) ⟨by rw [HC.out], (HF.out 31).2.2⟩
      | true =>
        rw [hr] at e0
        by_cases h100 : 100 < l.length
        · have HC : Hid (chk ⟨v, key, serial, size, bv, bs, l⟩ = 32) := by
            show _ = _
            unfold chk
            dsimp only
            rw [HVOL.out, HMAY.out, if_neg (by simp), if_neg (by rw [HANY.out]; simp), HR.out, if_neg (by rw [hr]; simp), if_pos h100]
          clear hr
          gi_wp2
          exact leaveD (HF.out 32).1 (res33 (HF.out 32).2.1 _ rfl) ⟨by rw [HC.out], (HF.out 32).2.2⟩
        · have HC : Hid (chk ⟨v, key, serial, size, bv, bs, l⟩ = 0) := by
            show _ = _
            unfold chk
            dsimp only
            rw [HVOL.out, HMAY.out, if_neg (by simp), if_neg (by rw [HANY.out]; simp), HR.out, if_neg (by rw [hr]; simp), if_neg h100]
          clear hr
          gi_wp2
          exact leaveD (HF.out 0).1 (res33 (HF.out 0).2.1 _ rfl) ⟨by rw [HC.out], (HF.out 0).2.2⟩
    case stop =>
      rintro D c pre W hD ⟨k, hk, rfl⟩ ⟨rfl, ⟨p, hp, hbad⟩, j3, j4⟩ hK
      have HC : Hid (chk ⟨v, key, serial, size, bv, bs, l⟩ = 1) := by
        show _ = _
        unfold chk
        dsimp only
        rw [HVOL.out, HMAY.out, if_neg (by simp), if_pos (List.any_eq_true.2 ⟨p, prs_mem l k _ hk p hp, hbad⟩)]
      have J3 := Lib.hid j3
      have J4 := Lib.hid j4
      have HK := Lib.hid hK
      clear hp hbad j3 j4 hK
      gi_wp2
      have h2 : (W.putObj D (.deferred none)).cell? ⟨w.heap.size + 1, 0, none⟩ = some (.int .i64 1) := by
        have h3 : (W.putObj D (.deferred none)).heap[w.heap.size + 1]? = some (.cells #[.int .i64 1] 30 (0, 0)) := by
          rw [World.putObj_heap_other (by omega)]; exact J3.out
        simp [World.cell?, h3]
      exact leaveD HK.out (res33 h2 _ rfl) ⟨by rw [HC.out], below_putObj J4.out (by omega) _⟩
  all_goals
    gi_wp2_with fail
    refine (callsIn_wide.2 (number_any serial w2)).mono ?_
    rintro e w2 ⟨rfl, rfl⟩
    rw [n1]
    clear n1
    gi_wp2_with fail
    refine (callsIn_wide.2 (pairs_any _ _ _ _)).mono ?_
    rintro e w3 ⟨rfl, rfl⟩
    gi_wp2
    have hSn : SnapsAt w (.slice a l.length cap) l := ⟨a, cap, rfl, HCS.out⟩
    have hb0 : Below w.heap.size w ((w2.alloc (.cells #[.bool false] 4)).alloc (.cells #[.slice a l.length cap] 27)) := (H5.out.alloc (by omega) _).alloc (by simp; omega) _
    have hS0 := hSn.below hb0 (Nat.le_refl _)
    have i1 : ((w2.alloc (.cells #[.bool false] 4)).alloc (.cells #[.slice a l.length cap] 27)).heap[w2.heap.size]? = some (.cells #[.bool false] 4 (0, 0)) := by
      rw [Below.heap_alloc _ _ _ (by simp)]; exact heap_alloc_new w2 _
    have i2 : ((w2.alloc (.cells #[.bool false] 4)).alloc (.cells #[.slice a l.length cap] 27)).heap[w.heap.size + 1]? = some (.cells #[.int .i64 0] 30 (0, 0)) := by
      rw [Below.heap_alloc _ _ _ (by simp; omega), Below.heap_alloc _ _ _ h8]; exact H7.out
    have i5 : ((w2.alloc (.cells #[.bool false] 4)).alloc (.cells #[.slice a l.length cap] 27)).heap[w.heap.size]? = some (.cells #[.string v, .int .u64 key, .int .i64 serial, .int .i64 size, .string bv, .int .i64 bs, .slice a l.length cap] 29 (0, 0)) := by
      rw [Below.heap_alloc _ _ _ (by simp; omega), Below.heap_alloc _ _ _ h9]; exact H6.out
    have i3 : ((w2.alloc (.cells #[.bool false] 4)).alloc (.cells #[.slice a l.length cap] 27)).cell? ⟨w2.heap.size + 1, 0, none⟩ = some (.slice a l.length cap) := by
      rw [World.cell?_alloc_at (hn := by simp)]; rfl
    have i4 : ((w2.alloc (.cells #[.bool false] 4)).alloc (.cells #[.slice a l.length cap] 27)).heap.size = w2.heap.size + 2 := by simp
    have hsb : ∀ b off, a = some ⟨b, off, none⟩ → 0 < l.length → b < w.heap.size := by
      intro b off hab hpos
      obtain ⟨b', off', e, hc, _⟩ := HCS.out 0 hpos
      rw [hab] at e
      simp only [Option.some.injEq, Addr.mk.injEq] at e
      obtain ⟨rfl, rfl, _⟩ := e
      exact World.block_lt_of_cell? _ _ hc
    obtain ⟨W0, hW0⟩ : ∃ W0, W0 = ((w2.alloc (.cells #[.bool false] 4)).alloc (.cells #[.slice a l.length cap] 27)) := ⟨_, rfl⟩
    rw [← hW0] at i1 i2 i3 i4 i5 hb0 hS0 ⊢
    refine wpIn_rangeFunc_X (gf := 84) (lb := #[.pointer (some ⟨w2.heap.size + 1, 0, none⟩)]) rfl (enters_of Try.func84 (by kernel_rfl) rfl)
      (pairs_seq (w2.heap.size + 1) cap a l W0 hlen i3 hS0) ?_ (fun _ => rfl) (fun k => k = w2.heap.size ∨ k = w.heap.size + 1) ?_
      (fun pre W => (∀ p ∈ pre, nameBad p = false) ∧ W.heap[w2.heap.size]? = some (.cells #[.bool (false && pre.all numsOk)] 4 (0, 0)) ∧ W.heap[w.heap.size + 1]? = some (.cells #[.int .i64 0] 30 (0, 0)) ∧ Below w.heap.size w W ∧ W.heap[w.heap.size]? = some (.cells #[.string v, .int .u64 key, .int .i64 serial, .int .i64 size, .string bv, .int .i64 bs, .slice a l.length cap] 29 (0, 0)))
      (fun c pre W => c = .ret ∧ (∃ p ∈ pre, nameBad p = true) ∧ W.heap[w.heap.size + 1]? = some (.cells #[.int .i64 1] 30 (0, 0)) ∧ Below w.heap.size w W)
      ?_ ?_ ⟨by simp, i1, i2, hb0, i5⟩
      (fun T pre x a' W => ∃ b1 b2, a' = { tmps := (((T.setIfInBounds 34 x.1.val).setIfInBounds 35 x.2.val).setIfInBounds 4 (.pointer (some ⟨b1, 0, none⟩))).setIfInBounds 5 (.pointer (some ⟨b2, 0, none⟩)), defers := [] } ∧
        W.heap[b1]? = some (.cells #[.string x.1.name, .int .i64 x.1.seq, .int .i64 x.1.upto] 56 (0, 0)) ∧ W.heap[b2]? = some (.cells #[.string x.2.name, .int .i64 x.2.seq, .int .i64 x.2.upto] 56 (0, 0)) ∧ w2.heap.size + 4 ≤ b1 ∧ w2.heap.size + 4 ≤ b2)
      ?_ ?assign ?body ?done ?stop
    · intro k hk
      exact ⟨by omega, fun b off hpos hab => by have := hsb b off hab hpos; omega⟩
    · rintro k (rfl | rfl)
      · exact ⟨⟨by omega, fun b off hpos hab => by have := hsb b off hab hpos; omega⟩, by omega⟩
      · exact ⟨⟨by omega, fun b off hpos hab => by have := hsb b off hab hpos; omega⟩, by omega⟩
    · rintro s A B ⟨j1, j2, j3, j4, j5⟩ hAB
      exact ⟨j1, (hAB.block _ (by omega)).trans j2, (hAB.block _ (by omega)).trans j3, j4.trans (hAB.mono (by omega)), (hAB.block _ (by omega)).trans j5⟩
    · rintro c s A B ⟨j1, j2, j3, j4⟩ hAB
      exact ⟨j1, j2, (hAB.block _ (by omega)).trans j3, j4.trans (hAB.mono (by omega))⟩
    · rintro T pre x a' A B ⟨b1, b2, j1, j2, j3, j4, j5⟩ hk
      exact ⟨b1, b2, j1, (hk _ (by omega)).trans j2, (hk _ (by omega)).trans j3, j4, j5⟩
    case assign =>
      intro pre x W K hi hsz hK
      simp only [Snp.val]
      gi_wp2
      exact hK _ _ (((Below.refl _ W).alloc (Nat.le_refl _) _).alloc (by simp) _) ⟨W.heap.size, W.heap.size + 1, rfl, by rw [Below.heap_alloc _ _ _ (by simp)]; exact heap_alloc_new W _,
        by have := heap_alloc_new (W.alloc (.cells #[.string x.1.name, .int .i64 x.1.seq, .int .i64 x.1.upto] 56)) (.cells #[.string x.2.name, .int .i64 x.2.seq, .int .i64 x.2.upto] 56); rwa [World.size_alloc] at this, by omega, by omega⟩
    case body =>
      rintro pre x a' W ⟨j1, j2, j3, j4, j5⟩ hlp hsz ⟨b1, b2, rfl, k1, k2, k3, k4⟩
      simp only [List.setIfInBounds_toArray, List.set_cons_succ, List.set_cons_zero, Snp.val]
      have c1 := cell_of_heap k1 0
      have d0 := cell_of_heap k2 0
      have d1 := cell_of_heap k2 1
      have d2' := cell_of_heap k2 2
      have e0 := cell_of_heap j2 0
      have e1 := frozen_of_heap j2 0
      have g0 := cell_of_heap j3 0
      have g1 := frozen_of_heap j3 0
      simp only [List.getElem?_toArray, List.getElem?_cons_zero, List.getElem?_cons_succ] at c1 d0 d1 d2' e0 g0
      have J1 := Lib.hid j1
      have J2 := Lib.hid j2
      have J3 := Lib.hid j3
      have J4 := Lib.hid j4
      have J5 := Lib.hid j5
      clear j1 j2 j3 j4 j5 k1 k2
      cases hc : (Op.bytesLess x.2.name.toList x.1.name.toList || x.2.name.toList == x.1.name.toList) with
      | true =>
        have HX : Hid (nameBad x = true) := by show _ = _; unfold nameBad; rw [hc]; rfl
        gi_wp2
        exact ⟨KeepsBut.setCell W (p := ⟨w.heap.size + 1, 0, none⟩) (.inr rfl) _, rfl, ⟨x, by simp, HX.out⟩, by rw [heap_setCell_same W _ 0 _ 30 _ J3.out]; rfl, J4.out.setCell (p := ⟨w.heap.size + 1, 0, none⟩) (by simp) _⟩
      | false =>
        by_cases h64 : 64 < x.2.name.size
        · have HX : Hid (nameBad x = true) := by show _ = _; unfold nameBad; rw [hc, decide_eq_true h64]; rfl
          gi_wp2
          exact ⟨KeepsBut.setCell W (p := ⟨w.heap.size + 1, 0, none⟩) (.inr rfl) _, rfl, ⟨x, by simp, HX.out⟩, by rw [heap_setCell_same W _ 0 _ 30 _ J3.out]; rfl, J4.out.setCell (p := ⟨w.heap.size + 1, 0, none⟩) (by simp) _⟩
        · have HX : Hid (nameBad x = false) := by show _ = _; unfold nameBad; rw [hc, decide_eq_false h64]; rfl
          have hgoods : ∀ p ∈ pre ++ [x], nameBad p = false := by
            intro p hp
            rcases List.mem_append.1 hp with h | h
            · exact J1.out p h
            · simp only [List.mem_singleton] at h; rw [h]; exact HX.out
          have HG := Lib.hid hgoods
          clear hgoods
          have hst : ∀ (A : Act) (r : Bool), r = (false && (pre ++ [x]).all numsOk) →
              ownPostX (fun k => k = w2.heap.size ∨ k = w.heap.size + 1)
                (fun pre W => (∀ p ∈ pre, nameBad p = false) ∧ W.heap[w2.heap.size]? = some (.cells #[.bool (false && pre.all numsOk)] 4 (0, 0)) ∧ W.heap[w.heap.size + 1]? = some (.cells #[.int .i64 0] 30 (0, 0)) ∧ Below w.heap.size w W ∧ W.heap[w.heap.size]? = some (.cells #[.string v, .int .u64 key, .int .i64 serial, .int .i64 size, .string bv, .int .i64 bs, .slice a l.length cap] 29 (0, 0)))
                (fun c pre W => c = .ret ∧ (∃ p ∈ pre, nameBad p = true) ∧ W.heap[w.heap.size + 1]? = some (.cells #[.int .i64 1] 30 (0, 0)) ∧ Below w.heap.size w W)
                (pre ++ [x]) W Exit.normal A (W.setCell ⟨w2.heap.size, 0, none⟩ (.bool r)) := by
            intro A r hr
            refine ⟨KeepsBut.setCell W (p := ⟨w2.heap.size, 0, none⟩) (.inl rfl) _, HG.out, ?_, ?_, J4.out.setCell (p := ⟨w2.heap.size, 0, none⟩) (by simp; omega) _, ?_⟩
            · rw [heap_setCell_same W _ 0 _ 4 _ J2.out, hr]; rfl
            · rw [Below.heap_setCell _ _ _ _ (by show w.heap.size + 1 ≠ w2.heap.size; omega)]; exact J3.out
            · rw [Below.heap_setCell _ _ _ _ (by show w.heap.size ≠ w2.heap.size; omega)]; exact J5.out
          have HST := Lib.hid hst
          clear hst
          have hall : (false && (pre ++ [x]).all numsOk) = false := rfl
          have HA := Lib.hid hall
          have hr : (false && pre.all numsOk) = false := rfl
          rw [hr] at e0
          clear hr hall
          gi_wp2
          exact HST.out _ _ HA.out.symm
    case done =>
      rintro D ys W hD rfl ⟨j1, j2, j3, j4, j5⟩ hK
      have e0 := cell_of_heap j2 0
      have g0 := cell_of_heap j3 0
      have g1 := frozen_of_heap j3 0
      have m6 := cell_of_heap j5 6
      simp only [List.getElem?_toArray, List.getElem?_cons_zero, List.getElem?_cons_succ] at e0 g0 m6
      have J1 := Lib.hid j1
      have J3 := Lib.hid j3
      have J4 := Lib.hid j4
      have HK := Lib.hid hK
      have hfin : ∀ n : Int, (W.setCell ⟨w.heap.size + 1, 0, none⟩ (.int .i64 n)).heap[D]? = some (.deferred (some [])) ∧
          ((W.setCell ⟨w.heap.size + 1, 0, none⟩ (.int .i64 n)).putObj D (.deferred none)).cell? ⟨w.heap.size + 1, 0, none⟩ = some (.int .i64 n) ∧
          Below w.heap.size w ((W.setCell ⟨w.heap.size + 1, 0, none⟩ (.int .i64 n)).putObj D (.deferred none)) := by
        intro n
        refine ⟨?_, ?_, below_putObj (J4.out.setCell (p := ⟨w.heap.size + 1, 0, none⟩) (by simp) _) (by omega) _⟩
        · rw [Below.heap_setCell _ _ _ _ (by show D ≠ w.heap.size + 1; omega)]; exact HK.out
        · have := heap_setCell_same W (w.heap.size + 1) 0 _ 30 (.int .i64 n) J3.out
          have h2 : ((W.setCell ⟨w.heap.size + 1, 0, none⟩ (.int .i64 n)).putObj D (.deferred none)).heap[w.heap.size + 1]? = some (.cells #[.int .i64 n] 30 (0, 0)) := by
            rw [World.putObj_heap_other (by omega)]; exact this
          simp [World.cell?, h2]
      have HF := Lib.hid hfin
      have hany : (prs l l.length).any nameBad = false := by rw [List.any_eq_false]; intro p hp; rw [J1.out p hp]; simp
      have HANY := Lib.hid hany
      clear j1 j2 j3 j4 j5 hK hfin hany
      have hr : (false && (prs l l.length).all numsOk) = false := rfl
      rw [hr] at e0
      have HC : Hid (chk ⟨v, key, serial, size, bv, bs, l⟩ = 31) := by
        show _ = _
        unfold chk
        dsimp only
        rw [HVOL.out, HMAY.out, if_neg (by simp), if_neg (by rw [HANY.out]; simp), HR.out, if_pos hr]
      clear hr
      gi_wp2
      exact leaveD (HF.out 31).1 (res33 (HF.out 31).2.1 _ rfl) ⟨by rw [HC.out], (HF.out 31).2.2⟩
    case stop =>
      rintro D c pre W hD ⟨k, hk, rfl⟩ ⟨rfl, ⟨p, hp, hbad⟩, j3, j4⟩ hK
      have HC : Hid (chk ⟨v, key, serial, size, bv, bs, l⟩ = 1) := by
        show _ = _
        unfold chk
        dsimp only
        rw [HVOL.out, HMAY.out, if_neg (by simp), if_pos (List.any_eq_true.2 ⟨p, prs_mem l k _ hk p hp, hbad⟩)]
      have J3 := Lib.hid j3
      have J4 := Lib.hid j4
      have HK := Lib.hid hK
      clear hp hbad j3 j4 hK
      gi_wp2
      have h2 : (W.putObj D (.deferred none)).cell? ⟨w.heap.size + 1, 0, none⟩ = some (.int .i64 1) := by
        have h3 : (W.putObj D (.deferred none)).heap[w.heap.size + 1]? = some (.cells #[.int .i64 1] 30 (0, 0)) := by
          rw [World.putObj_heap_other (by omega)]; exact J3.out
        simp [World.cell?, h3]
      exact leaveD HK.out (res33 h2 _ rfl) ⟨by rw [HC.out], below_putObj J4.out (by omega) _⟩

end Go.Proofs.Ytmkcphelmgkipaa
