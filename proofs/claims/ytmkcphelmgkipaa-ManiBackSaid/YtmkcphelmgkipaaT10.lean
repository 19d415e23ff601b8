import Derived.Test.YtmkcphelmgkipaaT9
set_option linter.unusedVariables false
set_option linter.unusedSimpArgs false
namespace Go.Proofs.Ytmkcphelmgkipaa
open Go.RowKit

set_option maxHeartbeats 1000000 in
set_option maxRecDepth 100000 in
theorem rvolume_any (s : ByteArray) (w : World) (hs : s.size ≤ 140737488351232) :
    Calls Try.prog 38 #[.string s] w fun e w' => e = .returned (.bool (vol s.data.toList)) ∧ w = w' := by
  have hsz : s.data.toList.length = s.size := by simp
  have HSZ := Lib.hid hsz; clear hsz
  go_enter Try.func38, Try.ntmps38
  go_wp2
  go_loop [3] (fun i => ∃ k : Nat, i = .int .i64 k ∧ k ≤ s.size ∧ Hid ((s.data.toList.take k).all (fun c => okr (c.toNat : Int)) = true)) (fun i => s.size - (intOf i).toNat)
  case atStart => exact ⟨0, rfl, by omega, rfl⟩
  case round =>
    obtain ⟨k, rfl, hk, HA⟩ := hrel
    by_cases hlt : k < s.size
    · have hb := UInt8.toNat_lt s[k]
      have HN : Hid (okr (s[k].toNat : Int) = true → (s.data.toList.take (k + 1)).all (fun c => okr (c.toNat : Int)) = true) := all_snoc s k hlt HA.out
      have HB : Hid (okr (s[k].toNat : Int) = false → vol s.data.toList = false) := vol_bad s k hlt
      obtain ⟨c, hc⟩ : ∃ c : Nat, c = s[k].toNat := ⟨_, rfl⟩
      by_cases h1 : s[k].toNat < 97
      · by_cases h3 : s[k].toNat < 48
        · by_cases h5 : s[k].toNat = 45
          · have h6 : ((s[k].toNat : Int) != 45) = false := by simp; omega
            have HY := Lib.hid (okr_yes (r := (s[k].toNat : Int)) (by omega))
            have H5 := Lib.hid h5; clear h5 hc
            have h1' : decide ((s[k].toNat : Int) < 97) = true := by simp; omega
            have h3' : decide ((s[k].toNat : Int) < 48) = true := by simp; omega
            go_wp2
            go_round
            case rel => exact ⟨k + 1, by go_num, by omega, HN.out HY.out⟩
            case measure => simp [intOf]; omega
          · have h6 : ((s[k].toNat : Int) != 45) = true := by simp; omega
            have HY := Lib.hid (HB.out (okr_no (r := (s[k].toNat : Int)) (by omega)))
            have H5 := Lib.hid h5; clear h5 hc
            go_wp2
            go_ret
            exact ⟨by rw [HY.out]; rfl, rfl⟩
        · by_cases h4 : 57 < s[k].toNat
          · have h6 : ((s[k].toNat : Int) != 45) = true := by simp; omega
            have HY := Lib.hid (HB.out (okr_no (r := (s[k].toNat : Int)) (by omega)))
            clear hc
            go_wp2
            go_ret
            exact ⟨by rw [HY.out]; rfl, rfl⟩
          · have HY := Lib.hid (okr_yes (r := (s[k].toNat : Int)) (by omega))
            clear hc
            go_wp2
            go_round
            case rel => exact ⟨k + 1, by go_num, by omega, HN.out HY.out⟩
            case measure => simp [intOf]; omega
      · by_cases h2 : 122 < s[k].toNat
        · have h6 : ((s[k].toNat : Int) != 45) = true := by simp; omega
          have HY := Lib.hid (HB.out (okr_no (r := (s[k].toNat : Int)) (by omega)))
          have h3 : ¬ s[k].toNat < 48 := by omega
          have h4 : 57 < s[k].toNat := by omega
          clear hc
          go_wp2
          go_ret
          exact ⟨by rw [HY.out]; rfl, rfl⟩
        · have HY := Lib.hid (okr_yes (r := (s[k].toNat : Int)) (by omega))
          clear hc
          go_wp2
          go_round
          case rel => exact ⟨k + 1, by go_num, by omega, HN.out HY.out⟩
          case measure => simp [intOf]; omega
    · obtain rfl : k = s.size := by omega
      have ha := HA.out
      rw [List.take_of_length_le (by have := HSZ.out; omega)] at ha
      by_cases h1 : 1 ≤ s.size
      · by_cases h2 : s.size ≤ 32
        · have HV := Lib.hid (vol_all s.data.toList (by have := HSZ.out; omega) ha)
          clear ha
          go_wp2
          go_ret
          exact ⟨by rw [HV.out]; exact ret_bool (by simp; omega), rfl⟩
        · have HV := Lib.hid (vol_long s.data.toList (by have := HSZ.out; omega))
          clear ha
          go_wp2
          go_ret
          exact ⟨by rw [HV.out]; exact ret_bool (by simp; omega), rfl⟩
      · have HV := Lib.hid (vol_long s.data.toList (by have := HSZ.out; omega))
        clear ha
        go_wp2
        go_ret
        exact ⟨by rw [HV.out]; exact ret_bool (by simp; try omega), rfl⟩

/-- May a number be? -/
def nump (n : Int) : Bool := decide (0 ≤ n ∧ n < 1099511627776)

set_option maxHeartbeats 1000000 in
set_option maxRecDepth 100000 in
theorem number_any (n : Int) (w : World) :
    Calls Try.prog 66 #[.int .i64 n] w fun e w' => e = .returned (.bool (nump n)) ∧ w = w' := by
  by_cases h0 : 0 ≤ n
  · by_cases h1 : n < 1099511627776
    · have HV : Hid (nump n = true) := decide_eq_true ⟨h0, h1⟩
      go_enter Try.func66, Try.ntmps66
      go_wp2
      go_ret
      exact ⟨by rw [HV.out]; exact ret_bool (by simp; try omega), rfl⟩
    · have HV : Hid (nump n = false) := decide_eq_false (fun h => h1 h.2)
      go_enter Try.func66, Try.ntmps66
      go_wp2
      go_ret
      exact ⟨by rw [HV.out]; exact ret_bool (by simp; try omega), rfl⟩
  · have HV : Hid (nump n = false) := decide_eq_false (fun h => h0 h.1)
    go_enter Try.func66, Try.ntmps66
    go_wp2
    go_ret
    exact ⟨by rw [HV.out]; exact ret_bool (by simp; try omega), rfl⟩

set_option maxHeartbeats 1000000 in
set_option maxRecDepth 100000 in
theorem rnumber_any (n : Int) (w : World) :
    Calls Try.prog 39 #[.int .i64 n] w fun e w' => e = .returned (.bool (nump n)) ∧ w = w' := by
  by_cases h0 : 0 ≤ n
  · by_cases h1 : n < 1099511627776
    · have HV : Hid (nump n = true) := decide_eq_true ⟨h0, h1⟩
      go_enter Try.func39, Try.ntmps39
      go_wp2
      go_ret
      exact ⟨by rw [HV.out]; exact ret_bool (by simp; try omega), rfl⟩
    · have HV : Hid (nump n = false) := decide_eq_false (fun h => h1 h.2)
      go_enter Try.func39, Try.ntmps39
      go_wp2
      go_ret
      exact ⟨by rw [HV.out]; exact ret_bool (by simp; try omega), rfl⟩
  · have HV : Hid (nump n = false) := decide_eq_false (fun h => h0 h.1)
    go_enter Try.func39, Try.ntmps39
    go_wp2
    go_ret
    exact ⟨by rw [HV.out]; exact ret_bool (by simp; try omega), rfl⟩

/-- May a base be of a volume? -/
def mayB (bv : ByteArray) (bs : Int) (v : ByteArray) : Bool :=
  (decide (bv.data.toList = []) && decide (bs = 0)) || (vol bv.data.toList && decide (bv ≠ v) && nump bs)

theorem volE_yes {l : List UInt8} (h : vol l = true) : volE l = 0 := by unfold volE; rw [if_pos h]
theorem volE_no {l : List UInt8} (h : vol l = false) : volE l = 1 := by unfold volE; rw [h]; rfl

/-- A cell of the block that was just laid, behind a call that keeps what was there. -/
theorem kept_new {w w1 : World} {c : Array Value} {e : TypeId} (hb : Below (w.alloc (.cells c e)).heap.size (w.alloc (.cells c e)) w1) (i : Nat) : w1.cell? ⟨w.heap.size, i, none⟩ = c[i]? := by
  rw [hb.cell (by simp), World.cell?_alloc_at (hn := rfl)]

theorem nil_of_toList {s : ByteArray} (h : s.toList = []) : s.data.toList = [] := by rw [← ByteArray.toList_eq]; exact h
theorem toList_ne {s : ByteArray} (h : ¬ s.toList = []) : ¬ s.data.toList = [] := by rw [← ByteArray.toList_eq]; exact h

theorem alloc_trans {w w1 : World} {o : Obj} (hb : Below (w.alloc o).heap.size (w.alloc o) w1) : Below w.heap.size w w1 :=
  ((Below.refl _ w).alloc (Nat.le_refl _) _).trans (hb.mono (by simp))

set_option maxHeartbeats 1000000 in
set_option maxRecDepth 100000 in
theorem may_any (bv v : ByteArray) (bs : Int) (w : World) (hs : bv.size ≤ 140737488351232) :
    Calls Try.prog 65 #[.agg #[.string bv, .int .i64 bs], .string v] w fun e w' => e = .returned (.bool (mayB bv bs v)) ∧ Below w.heap.size w w' := by
  have rest : ¬ (bv.toList = [] ∧ bs = 0) → mayB bv bs v = (vol bv.data.toList && decide (bv ≠ v) && nump bs) := by
    intro h
    unfold mayB
    have : (decide (bv.data.toList = []) && decide (bs = 0)) = false := by
      rw [Bool.and_eq_false_iff, decide_eq_false_iff_not, decide_eq_false_iff_not, ← ByteArray.toList_eq]
      by_cases h1 : bv.toList = []
      · exact .inr (fun h2 => h ⟨h1, h2⟩)
      · exact .inl h1
    rw [this, Bool.false_or]
  have hlater : ∀ h : ¬ (bv.toList = [] ∧ bs = 0), Calls Try.prog 65 #[.agg #[.string bv, .int .i64 bs], .string v] w fun e w' => e = .returned (.bool (mayB bv bs v)) ∧ Below w.heap.size w w' := by
    intro h
    have HR := Lib.hid (rest h)
    have hV := volume_any bv (w.alloc (.cells #[.string bv, .int .i64 bs] 26)) hs
    have hcase : (bv.toList = [] ∧ ¬ bs = 0) ∨ ¬ bv.toList = [] := by
      by_cases h1 : bv.toList = []
      · exact .inl ⟨h1, fun h2 => h ⟨h1, h2⟩⟩
      · exact .inr h1
    have HV := Lib.hid hV
    clear hV rest h
    cases hv : vol bv.data.toList with
    | false =>
      rw [hv] at HR
      rcases hcase with ⟨a1, a2⟩ | a1
      all_goals
        go_enter Try.func65, Try.ntmps65
        go_wp2_with fail
        refine HV.out.mono ?_
        rintro e w1 ⟨rfl, hb⟩
        rw [volE_no hv]
        have A1 := Lib.hid a1
        clear hv a1
        go_wp2
        go_ret
        exact ⟨by rw [HR.out]; rfl, alloc_trans hb⟩
    | true =>
      rw [hv] at HR
      by_cases heq : bv = v
      · have HQ : Hid (mayB bv bs v = false) := by show _ = _; rw [HR.out]; simp [heq]
        have hq : (!bv.toList == v.toList) = false := by rw [beq_toList]; simp [heq]
        have HE := Lib.hid heq
        clear heq
        rcases hcase with ⟨a1, a2⟩ | a1
        all_goals
          go_enter Try.func65, Try.ntmps65
          go_wp2_with fail
          refine HV.out.mono ?_
          rintro e w1 ⟨rfl, hb⟩
          rw [volE_yes hv]
          have A1 := Lib.hid a1
          clear hv a1
          have hc0 := kept_new hb 0
          have hc1 := kept_new hb 1
          simp only [List.getElem?_toArray, List.getElem?_cons_zero, List.getElem?_cons_succ] at hc0 hc1
          go_wp2
          go_ret
          exact ⟨by rw [HQ.out]; rfl, alloc_trans hb⟩
      · have HQ : Hid (mayB bv bs v = nump bs) := by show _ = _; rw [HR.out]; simp [heq]
        have hq : (!bv.toList == v.toList) = true := by rw [beq_toList]; simp [heq]
        clear heq
        rcases hcase with ⟨a1, a2⟩ | a1
        all_goals
          go_enter Try.func65, Try.ntmps65
          go_wp2_with fail
          refine HV.out.mono ?_
          rintro e w1 ⟨rfl, hb⟩
          rw [volE_yes hv]
          have A1 := Lib.hid a1
          clear hv a1
          have hc0 := kept_new hb 0
          have hc1 := kept_new hb 1
          simp only [List.getElem?_toArray, List.getElem?_cons_zero, List.getElem?_cons_succ] at hc0 hc1
          go_wp2_with fail
          refine (number_any bs _).mono ?_
          rintro e w2 ⟨rfl, rfl⟩
          go_wp2
          go_ret
          exact ⟨by rw [HQ.out]; rfl, alloc_trans hb⟩
  by_cases h : bv.toList = [] ∧ bs = 0
  · obtain ⟨h1, h2⟩ := h
    have HQ : Hid (mayB bv bs v = true) := by show _ = _; unfold mayB; rw [nil_of_toList h1, h2]; rfl
    clear rest hlater
    go_enter Try.func65, Try.ntmps65
    go_wp2
    go_ret
    exact ⟨by rw [HQ.out]; rfl, (Below.refl _ w).alloc (Nat.le_refl _) _⟩
  · exact hlater h
end Go.Proofs.Ytmkcphelmgkipaa
