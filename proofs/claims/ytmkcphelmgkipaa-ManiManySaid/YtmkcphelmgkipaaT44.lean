import Derived.Test.YtmkcphelmgkipaaT43
set_option linter.unusedVariables false
set_option linter.unusedSimpArgs false
namespace Go.Proofs.Ytmkcphelmgkipaa
open Go.RowKit

/-! A byte that is turned turns the check sum. -/

theorem xor_cancel_right {a b p : Nat} (h : a ^^^ p = b ^^^ p) : a = b := by
  have := congrArg (· ^^^ p) h
  simpa [Nat.xor_assoc] using this
theorem xor_cancel_left {a b p : Nat} (h : p ^^^ a = p ^^^ b) : a = b := by
  rw [Nat.xor_comm p a, Nat.xor_comm p b] at h
  exact xor_cancel_right h

theorem stp_inj {x y : Int} (hx : 0 ≤ x) (hx' : x < 4294967296) (hy : 0 ≤ y) (hy' : y < 4294967296) (h : stp x = stp y) : x = y := by
  rw [stp_eq x hx hx', stp_eq y hy hy'] at h
  obtain ⟨a, rfl⟩ := Int.eq_ofNat_of_zero_le hx
  obtain ⟨b, rfl⟩ := Int.eq_ofNat_of_zero_le hy
  have ea : ((a : Int) / 2) = ((a / 2 : Nat) : Int) := by omega
  have eb : ((b : Int) / 2) = ((b / 2 : Nat) : Int) := by omega
  have xa : xr ((a / 2 : Nat) : Int) 2197175160 = ((a / 2 ^^^ 2197175160 : Nat) : Int) := xr_nat (a / 2) 2197175160 (by omega) (by omega)
  have xb : xr ((b / 2 : Nat) : Int) 2197175160 = ((b / 2 ^^^ 2197175160 : Nat) : Int) := xr_nat (b / 2) 2197175160 (by omega) (by omega)
  rw [ea, eb, xa, xb] at h
  have hab : a / 2 ^^^ b / 2 < 2 ^ 31 := Nat.xor_lt_two_pow (by omega) (by omega)
  split at h
  · split at h
    · have := xor_cancel_right (Int.ofNat.inj h)
      omega
    · have h' : a / 2 ^^^ 2197175160 = b / 2 := Int.ofNat.inj h
      have : a / 2 ^^^ b / 2 = 2197175160 := by rw [← h', ← Nat.xor_assoc, Nat.xor_self, Nat.zero_xor]
      omega
  · split at h
    · have h' : a / 2 = b / 2 ^^^ 2197175160 := Int.ofNat.inj h
      have : a / 2 ^^^ b / 2 = 2197175160 := by rw [h', Nat.xor_comm, ← Nat.xor_assoc, Nat.xor_self, Nat.zero_xor]
      omega
    · have h' : a / 2 = b / 2 := Int.ofNat.inj h
      omega

theorem stps_inj (n : Nat) {x y : Int} (hx : 0 ≤ x) (hx' : x < 4294967296) (hy : 0 ≤ y) (hy' : y < 4294967296) (h : stps n x = stps n y) : x = y := by
  induction n generalizing x y with
  | zero => exact h
  | succ n ih =>
    have b1 := stp_bd x hx hx'
    have b2 := stp_bd y hy hy'
    exact stp_inj hx hx' hy hy' (ih b1.1 b1.2 b2.1 b2.2 h)

theorem bytd_inj {x y b : Int} (hx : 0 ≤ x) (hx' : x < 4294967296) (hy : 0 ≤ y) (hy' : y < 4294967296) (hb : 0 ≤ b) (hb' : b < 256) (h : bytd x b = bytd y b) : x = y := by
  have b1 := xr_bd x b hx hx' hb (by omega)
  have b2 := xr_bd y b hy hy' hb (by omega)
  have h := stps_inj 8 b1.1 b1.2 b2.1 b2.2 h
  obtain ⟨a, rfl⟩ := Int.eq_ofNat_of_zero_le hx
  obtain ⟨c, rfl⟩ := Int.eq_ofNat_of_zero_le hy
  obtain ⟨d, rfl⟩ := Int.eq_ofNat_of_zero_le hb
  rw [xr_nat a d (by omega) (by omega), xr_nat c d (by omega) (by omega)] at h
  have := xor_cancel_right (Int.ofNat.inj h)
  omega

theorem bytd_inj_byte {x b c : Int} (hx : 0 ≤ x) (hx' : x < 4294967296) (hb : 0 ≤ b) (hb' : b < 256) (hc : 0 ≤ c) (hc' : c < 256) (h : bytd x b = bytd x c) : b = c := by
  have b1 := xr_bd x b hx hx' hb (by omega)
  have b2 := xr_bd x c hx hx' hc (by omega)
  have h := stps_inj 8 b1.1 b1.2 b2.1 b2.2 h
  obtain ⟨a, rfl⟩ := Int.eq_ofNat_of_zero_le hx
  obtain ⟨d, rfl⟩ := Int.eq_ofNat_of_zero_le hb
  obtain ⟨e, rfl⟩ := Int.eq_ofNat_of_zero_le hc
  rw [xr_nat a d (by omega) (by omega), xr_nat a e (by omega) (by omega)] at h
  have := xor_cancel_left (Int.ofNat.inj h)
  omega

theorem crcs_inj (l : List UInt8) {x y : Int} (hx : 0 ≤ x) (hx' : x < 4294967296) (hy : 0 ≤ y) (hy' : y < 4294967296) (h : crcs x l = crcs y l) : x = y := by
  induction l generalizing x y with
  | nil => exact h
  | cons c l ih =>
    have hc := UInt8.toNat_lt c
    have b1 := bytd_bd x c.toNat hx hx' (by omega) (by omega)
    have b2 := bytd_bd y c.toNat hy hy' (by omega) (by omega)
    exact bytd_inj hx hx' hy hy' (by omega) (by omega) (ih b1.1 b1.2 b2.1 b2.2 h)

theorem sum_turned {A B : List UInt8} {c d : UInt8} (h : sumOf (A ++ c :: B) = sumOf (A ++ d :: B)) : c = d := by
  unfold sumOf at h
  have h1 : crcs 4294967295 (A ++ c :: B) = crcs 4294967295 (A ++ d :: B) := by omega
  rw [crcs_append, crcs_append] at h1
  have hA := crcs_bd 4294967295 A (by omega) (by omega)
  have hc := UInt8.toNat_lt c
  have hd := UInt8.toNat_lt d
  have b1 := bytd_bd (crcs 4294967295 A) c.toNat hA.1 hA.2 (by omega) (by omega)
  have b2 := bytd_bd (crcs 4294967295 A) d.toNat hA.1 hA.2 (by omega) (by omega)
  have h2 := crcs_inj B b1.1 b1.2 b2.1 b2.2 h1
  have h3 := bytd_inj_byte hA.1 hA.2 (by omega) (by omega) (by omega) (by omega) h2
  exact UInt8.toNat_inj.mp (by omega)

theorem four_inj {x y : Int} (hx : 0 ≤ x) (hx' : x < 4294967296) (hy : 0 ≤ y) (hy' : y < 4294967296) (h : four x = four y) : x = y := by
  unfold four at h
  simp only [List.cons.injEq, and_true] at h
  obtain ⟨h0, h1, h2, h3⟩ := h
  have e : ∀ a b : Int, 0 ≤ a → a < 256 → 0 ≤ b → b < 256 → UInt8.ofNat a.toNat = UInt8.ofNat b.toNat → a = b := fun a b ha ha' hb hb' h => by
    have := congrArg UInt8.toNat h
    rw [UInt8.toNat_ofNat', UInt8.toNat_ofNat'] at this
    omega
  have g0 := e _ _ (by omega) (by omega) (by omega) (by omega) h0
  have g1 := e _ _ (by omega) (by omega) (by omega) (by omega) h1
  have g2 := e _ _ (by omega) (by omega) (by omega) (by omega) h2
  have g3 := e _ _ (by omega) (by omega) (by omega) (by omega) h3
  omega

/-- One byte of a sealed text turned: the sum tells. -/
theorem opened_turned (l : List UInt8) (i : Nat) (hi : i < (sealed l).length) (d : UInt8) (hd : d ≠ (sealed l)[i]) : opened ((sealed l).set i d) = ([], 13) := by
  have hl : (sealed l).length = l.length + 4 := by unfold sealed; rw [List.length_append]; rfl
  have hsl : ((sealed l).set i d).length = l.length + 4 := by rw [List.length_set, hl]
  refine opened_bad _ (by omega) ?_
  rw [hsl, Nat.add_sub_cancel]
  intro h
  by_cases hil : i < l.length
  · have ht : ((sealed l).set i d).take l.length = l.set i d := by
      unfold sealed
      rw [List.set_append_left _ _ hil, List.take_left' (by rw [List.length_set])]
    rw [ht] at h
    have hs : (sealed l).set i d = l.set i d ++ four (sumOf l) := by unfold sealed; rw [List.set_append_left _ _ hil]
    rw [hs] at h
    unfold sealed at h
    have h4 := List.append_cancel_left h
    have b1 := sumOf_bd (l.set i d)
    have b2 := sumOf_bd l
    have hsum := four_inj b1.1 b1.2 b2.1 b2.2 h4
    have e1 : l.set i d = l.take i ++ d :: l.drop (i + 1) := by rw [List.set_eq_take_append_cons_drop, if_pos hil]
    have e2 : l = l.take i ++ l[i] :: l.drop (i + 1) := by
      rw [← List.drop_eq_getElem_cons hil, List.take_append_drop]
    rw [e1] at hsum
    conv at hsum => rhs; rw [e2]
    have := sum_turned hsum
    apply hd
    rw [this]
    exact (List.getElem_append_left (bs := four (sumOf l)) hil).symm
  · have ht : ((sealed l).set i d).take l.length = l := by
      unfold sealed
      rw [List.set_append_right _ _ (by omega), List.take_left]
    rw [ht] at h
    have := congrArg (fun t => t[i]?) h
    rw [List.getElem?_set_self hi, List.getElem?_eq_getElem hi] at this
    exact hd (by injection this with e; exact e.symm)
end Go.Proofs.Ytmkcphelmgkipaa
