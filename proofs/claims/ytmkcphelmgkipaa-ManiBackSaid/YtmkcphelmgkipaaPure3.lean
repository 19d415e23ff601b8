/- Plain functions on lists of bytes: what is read out of them. -/
import Derived.Test.YtmkcphelmgkipaaT7
set_option linter.unusedVariables false
set_option linter.unusedSimpArgs false
namespace Go.Proofs.Ytmkcphelmgkipaa
open Go.RowKit

/-- How many bytes a number has, by its first byte. -/
def lead (c : Nat) : Nat :=
  if c < 128 then 1 else if c < 192 then 2 else if c < 224 then 3 else if c < 240 then 4 else if c < 248 then 5 else if c < 252 then 6 else if c < 254 then 7 else if c < 255 then 8 else 9
theorem lead_bd (c : Nat) : 1 ≤ lead c ∧ lead c ≤ 9 := by
  unfold lead; repeat' split
  all_goals omega

/-- Bytes as a number, the high one first, behind another. -/
def beFrom (x : Nat) (l : List UInt8) : Nat := l.foldl (fun x c => 256 * x + c.toNat) x
theorem beFrom_snoc (x : Nat) (l : List UInt8) (c : UInt8) : beFrom x (l ++ [c]) = 256 * beFrom x l + c.toNat := by simp [beFrom]
theorem beFrom_eq (x : Nat) (l : List UInt8) : beFrom x l = x * 256 ^ l.length + beFrom 0 l := by
  induction l generalizing x with
  | nil => simp [beFrom]
  | cons c l ih =>
    have h1 := ih (256 * x + c.toNat)
    have h2 := ih (256 * 0 + c.toNat)
    show beFrom (256 * x + c.toNat) l = _
    have h3 : beFrom 0 (c :: l) = beFrom (256 * 0 + c.toNat) l := rfl
    rw [h1, h3, h2, List.length_cons, Nat.pow_succ, Nat.add_mul, Nat.add_mul]
    have : 256 * x * 256 ^ l.length = x * (256 ^ l.length * 256) := by rw [Nat.mul_comm 256 x, Nat.mul_assoc, Nat.mul_comm 256]
    rw [this]; simp; omega
theorem beFrom_lt (l : List UInt8) : beFrom 0 l < 256 ^ l.length := by
  induction l with
  | nil => simp [beFrom]
  | cons c l ih =>
    have h3 : beFrom 0 (c :: l) = beFrom c.toNat l := by show beFrom (256 * 0 + c.toNat) l = _; simp
    have hc := UInt8.toNat_lt c
    rw [h3, beFrom_eq, List.length_cons, Nat.pow_succ]
    have : c.toNat * 256 ^ l.length ≤ 255 * 256 ^ l.length := Nat.mul_le_mul_right _ (by omega)
    omega

theorem be_mod (x k n : Nat) (h : k ≤ n) : be (x % 256 ^ n) k = be x k := by
  induction k with
  | zero => rfl
  | succ k ih =>
    simp only [be]
    rw [ih (by omega)]
    congr 2
    have h1 : 256 ^ n = 256 ^ k * 256 ^ (n - k) := by rw [← Nat.pow_add]; congr 1; omega
    rw [h1, Nat.mod_mul_right_div_self]
    have h2 : 256 ^ (n - k) = 256 * 256 ^ (n - k - 1) := by rw [← Nat.pow_succ']; congr 1; omega
    rw [h2, Nat.mod_mul_right_mod]

theorem be_beFrom (l : List UInt8) : be (beFrom 0 l) l.length = l := by
  induction l with
  | nil => rfl
  | cons c l ih =>
    have h3 : beFrom 0 (c :: l) = beFrom c.toNat l := by show beFrom (256 * 0 + c.toNat) l = _; simp
    have hc := UInt8.toNat_lt c
    have hl := beFrom_lt l
    rw [h3, beFrom_eq, List.length_cons]
    have hd : (c.toNat * 256 ^ l.length + beFrom 0 l) / 256 ^ l.length = c.toNat := by
      rw [Nat.mul_comm, Nat.mul_add_div (Nat.pow_pos (by omega)), Nat.div_eq_of_lt hl]; rfl
    simp only [be]
    rw [hd]
    congr 1
    · rw [Nat.mod_eq_of_lt hc]; simp
    · rw [← be_mod _ _ l.length (Nat.le_refl _), Nat.mul_comm, Nat.mul_add_mod, Nat.mod_eq_of_lt hl, ih]

theorem beFrom_be (x n : Nat) : beFrom 0 (be x n) = x % 256 ^ n := by
  induction n with
  | zero => simp [be, beFrom]; omega
  | succ n ih =>
    have h3 : beFrom 0 (be x (n + 1)) = beFrom (UInt8.ofNat (x / 256 ^ n % 256)).toNat (be x n) := by show beFrom (256 * 0 + _) _ = _; simp
    rw [h3, beFrom_eq, ih, be_length, UInt8.toNat_ofNat', Nat.mod_mod, Nat.pow_succ, Nat.mod_mul]
    rw [Nat.mul_comm]; omega

/-- The number at the beginning, and how many bytes it has. -/
def rvar : List UInt8 → Option (Nat × Nat)
  | [] => none
  | c :: t =>
    if t.length + 1 < lead c.toNat then none
    else if vsz (beFrom (if lead c.toNat = 9 then 0 else c.toNat - hd (lead c.toNat)) (t.take (lead c.toNat - 1))) = lead c.toNat then
      some (beFrom (if lead c.toNat = 9 then 0 else c.toNat - hd (lead c.toNat)) (t.take (lead c.toNat - 1)), lead c.toNat)
    else none

theorem rvar_cons (c : UInt8) (t : List UInt8) : rvar (c :: t) =
    if t.length + 1 < lead c.toNat then none
    else if vsz (beFrom (if lead c.toNat = 9 then 0 else c.toNat - hd (lead c.toNat)) (t.take (lead c.toNat - 1))) = lead c.toNat then
      some (beFrom (if lead c.toNat = 9 then 0 else c.toNat - hd (lead c.toNat)) (t.take (lead c.toNat - 1)), lead c.toNat)
    else none := rfl

theorem lead_hd (c : Nat) (hc : c < 256) (h : lead c ≠ 9) : hd (lead c) ≤ c ∧ c - hd (lead c) < 2 ^ (8 - lead c) := by
  unfold lead at h ⊢
  repeat' split
  all_goals (simp only [hd, Nat.reduceSub, Nat.reducePow]; first | omega | skip)
  all_goals simp_all

theorem lead_nine (c : Nat) (hc : c < 256) (h : lead c = 9) : c = 255 := by
  unfold lead at h
  repeat' split at h
  all_goals omega

theorem lead_of (n y : Nat) (h1 : 1 ≤ n) (h8 : n ≤ 8) (hy : y < 2 ^ (8 - n)) : lead (hd n + y) = n := by
  have : n = 1 ∨ n = 2 ∨ n = 3 ∨ n = 4 ∨ n = 5 ∨ n = 6 ∨ n = 7 ∨ n = 8 := by omega
  rcases this with h | h | h | h | h | h | h | h <;> subst h <;> simp only [hd, Nat.reduceSub, Nat.reducePow] at hy ⊢ <;> unfold lead <;> (repeat' split) <;> omega

theorem rvar_bd {r : List UInt8} {x n : Nat} (h : rvar r = some (x, n)) : x < 18446744073709551616 ∧ 1 ≤ n ∧ n ≤ r.length := by
  cases r with
  | nil => simp [rvar] at h
  | cons c t =>
    have hb := lead_bd c.toNat
    have hc := UInt8.toNat_lt c
    rw [rvar_cons] at h
    split at h
    · cases h
    · rename_i hl
      by_cases hv : vsz (beFrom (if lead c.toNat = 9 then 0 else c.toNat - hd (lead c.toNat)) (t.take (lead c.toNat - 1))) = lead c.toNat
      · rw [if_pos hv] at h
        simp only [Option.some.injEq, Prod.mk.injEq] at h
        obtain ⟨hx, hn⟩ := h
        have ht : (t.take (lead c.toNat - 1)).length = lead c.toNat - 1 := by rw [List.length_take]; omega
        have hlt := beFrom_lt (t.take (lead c.toNat - 1))
        rw [beFrom_eq] at hx
        rw [ht] at hlt hx
        refine ⟨?_, by omega, by simp; omega⟩
        by_cases h9 : lead c.toNat = 9
        · rw [if_pos h9] at hx
          rw [h9] at hlt hx
          simp only [Nat.reduceSub, Nat.reducePow, Nat.zero_mul, Nat.zero_add] at hlt hx
          omega
        · rw [if_neg h9] at hx
          have hlh := lead_hd _ hc h9
          have e256 : (256 : Nat) ^ (lead c.toNat - 1) = 2 ^ (8 * (lead c.toNat - 1)) := by rw [Nat.pow_mul]
          have h1 : (c.toNat - hd (lead c.toNat)) * 256 ^ (lead c.toNat - 1) + 256 ^ (lead c.toNat - 1) ≤ 2 ^ (8 - lead c.toNat) * 256 ^ (lead c.toNat - 1) := by
            rw [← Nat.succ_mul]; exact Nat.mul_le_mul_right _ hlh.2
          have h2 : 2 ^ (8 - lead c.toNat) * 256 ^ (lead c.toNat - 1) ≤ 2 ^ 56 := by
            rw [e256, ← Nat.pow_add]; exact Nat.pow_le_pow_right (by omega) (by omega)
          simp only [Nat.reducePow] at h2
          omega
      · rw [if_neg hv] at h; cases h

theorem rvar_sound {r : List UInt8} {x n : Nat} (h : rvar r = some (x, n)) : n = (vr x).length ∧ r = vr x ++ r.drop n := by
  have hbd := rvar_bd h
  cases r with
  | nil => simp [rvar] at h
  | cons c t =>
    have hb := lead_bd c.toNat
    have hc := UInt8.toNat_lt c
    rw [rvar_cons] at h
    split at h
    · cases h
    · rename_i hl
      by_cases hv : vsz (beFrom (if lead c.toNat = 9 then 0 else c.toNat - hd (lead c.toNat)) (t.take (lead c.toNat - 1))) = lead c.toNat
      · rw [if_pos hv] at h
        simp only [Option.some.injEq, Prod.mk.injEq] at h
        obtain ⟨hx, hn⟩ := h
        rw [hx] at hv
        have ht : (t.take (lead c.toNat - 1)).length = lead c.toNat - 1 := by rw [List.length_take]; omega
        have hlt := beFrom_lt (t.take (lead c.toNat - 1))
        have hbe := be_beFrom (t.take (lead c.toNat - 1))
        have hx' := hx
        rw [beFrom_eq] at hx'
        rw [ht] at hlt hx' hbe
        have hbe2 : be x (lead c.toNat - 1) = t.take (lead c.toNat - 1) := by
          rw [← hx', ← be_mod _ _ (lead c.toNat - 1) (Nat.le_refl _), Nat.mul_comm, Nat.mul_add_mod, Nat.mod_eq_of_lt hlt, hbe]
        have hdv : x / 256 ^ (lead c.toNat - 1) = if lead c.toNat = 9 then 0 else c.toNat - hd (lead c.toNat) := by
          rw [← hx', Nat.mul_comm, Nat.mul_add_div (Nat.pow_pos (by omega)), Nat.div_eq_of_lt hlt]; rfl
        have hvr : vr x = c :: t.take (lead c.toNat - 1) := by
          unfold vr
          rw [hv, hbe2, hdv]
          congr 1
          by_cases h9 : lead c.toNat = 9
          · rw [if_pos h9, h9]
            have := lead_nine _ hc h9
            show UInt8.ofNat 255 = c
            apply UInt8.toNat_inj.1; rw [this]; rfl
          · rw [if_neg h9]
            have := lead_hd _ hc h9
            rw [show hd (lead c.toNat) + (c.toNat - hd (lead c.toNat)) = c.toNat by omega]
            simp
        refine ⟨by rw [vr_length, hv, hn], ?_⟩
        rw [hvr, ← hn]
        obtain ⟨k, hk⟩ : ∃ k, lead c.toNat = k + 1 := ⟨lead c.toNat - 1, by omega⟩
        rw [hk]
        simp
      · rw [if_neg hv] at h; cases h

theorem rvar_vr (x : Nat) (hx : x < 18446744073709551616) (r : List UInt8) : rvar (vr x ++ r) = some (x, (vr x).length) := by
  have hz := vsz_bd x
  have hcell : vr x = UInt8.ofNat (hd (vsz x) + x / 256 ^ (vsz x - 1)) :: be x (vsz x - 1) := rfl
  have hcn : (UInt8.ofNat (hd (vsz x) + x / 256 ^ (vsz x - 1))).toNat = hd (vsz x) + x / 256 ^ (vsz x - 1) ∧ lead (hd (vsz x) + x / 256 ^ (vsz x - 1)) = vsz x ∧
      beFrom (if lead (hd (vsz x) + x / 256 ^ (vsz x - 1)) = 9 then 0 else hd (vsz x) + x / 256 ^ (vsz x - 1) - hd (vsz x)) (be x (vsz x - 1)) = x := by
    by_cases h9 : vsz x = 9
    · rw [h9]
      have h0 : x / 256 ^ (9 - 1) = 0 := by simp only [Nat.reduceSub, Nat.reducePow]; omega
      rw [h0]
      refine ⟨rfl, rfl, ?_⟩
      rw [if_pos (show lead (hd 9 + 0) = 9 from rfl), beFrom_be]
      simp only [Nat.reduceSub, Nat.reducePow]; omega
    · have ht := top_lt x (vsz x) rfl (by omega) hz.1
      have hlo := lead_of (vsz x) _ hz.1 (by omega) ht
      have hto := (top_or x (vsz x) rfl (by omega) hz.1).2
      refine ⟨by rw [UInt8.toNat_ofNat', Nat.mod_eq_of_lt (by simpa using hto)], hlo, ?_⟩
      rw [hlo, if_neg h9, Nat.add_sub_cancel_left, beFrom_eq, be_length, beFrom_be]
      have := Nat.div_add_mod x (256 ^ (vsz x - 1))
      rw [Nat.mul_comm] at this
      exact this
  have htake : (be x (vsz x - 1) ++ r).take (vsz x - 1) = be x (vsz x - 1) := by rw [List.take_append_of_le_length (by rw [be_length]; omega), List.take_of_length_le (by rw [be_length]; omega)]
  rw [hcell, List.cons_append]
  rw [rvar_cons, hcn.1, hcn.2.1]
  have h3 := hcn.2.2
  rw [hcn.2.1] at h3
  rw [htake, h3, if_neg (by rw [List.length_append, be_length]; omega), if_pos rfl, List.length_cons, be_length]
  congr 2; omega

end Go.Proofs.Ytmkcphelmgkipaa
