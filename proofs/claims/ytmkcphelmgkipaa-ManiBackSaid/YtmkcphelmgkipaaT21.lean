import Derived.Test.YtmkcphelmgkipaaT20
set_option linter.unusedVariables false
set_option linter.unusedSimpArgs false
namespace Go.Proofs.Ytmkcphelmgkipaa
open Go.RowKit
attribute [local go_sem ↓] Go.wp_at_zero Go.wp_at_succ

/-- A reading: from the place a on; none: it has failed, once for all. -/
def rd {α : Type} (z : α) (f : List UInt8 → Option (α × Nat)) (l : List UInt8) : Option Nat → α × Option Nat
  | none => (z, none)
  | some a => match f (l.drop a) with
    | none => (z, none)
    | some (v, n) => (v, some (a + n))
theorem rd_dead {α : Type} (z : α) (f : List UInt8 → Option (α × Nat)) (l : List UInt8) : rd z f l none = (z, none) := rfl
theorem rd_none {α : Type} {z : α} {f : List UInt8 → Option (α × Nat)} {l : List UInt8} {a : Nat} (h : f (l.drop a) = none) : rd z f l (some a) = (z, none) := by simp [rd, h]
theorem rd_some {α : Type} {z : α} {f : List UInt8 → Option (α × Nat)} {l : List UInt8} {a n : Nat} {v : α} (h : f (l.drop a) = some (v, n)) : rd z f l (some a) = (v, some (a + n)) := by simp [rd, h]

def rint (most : Nat) (r : List UInt8) : Option (Nat × Nat) :=
  match rvar r with
  | none => none
  | some (x, n) => if x ≤ most then some (x, n) else none
def rtext (most : Nat) (r : List UInt8) : Option (List UInt8 × Nat) :=
  match rint most r with
  | none => none
  | some (x, n) => if x ≤ r.length - n then some ((r.drop n).take x, n + x) else none
def rfixed (k : Nat) (r : List UInt8) : Option (Nat × Nat) := if r.length < k then none else some (beFrom 0 (r.take k), k)

/-- The reader in block o stands so. -/
def St (w : World) (o : Nat) (s : ByteArray) : Option Nat → Prop
  | none => Dead w o s
  | some a => a ≤ s.size ∧ InAt w o a 0 s

theorem rvar_at (s : ByteArray) (a : Nat) (ha : a < s.size) : rvar (s.data.toList.drop a) =
    if s.size - a < lead s[a].toNat then none else if vsz (said s a (lead s[a].toNat)) = lead s[a].toNat then some (said s a (lead s[a].toNat), lead s[a].toNat) else none := by
  have hsd : (s.data.toList.getD a 0) = s[a] := by
    rw [List.getD_eq_getElem?_getD, List.getElem?_eq_getElem (by simpa using ha)]; rfl
  have hl : (s.data.toList.drop (a + 1)).length + 1 = s.size - a := by simp; omega
  rw [drop_at s a ha, rvar_cons, hl]
  unfold said
  rw [hsd]

def VarPost (o : Nat) (s : ByteArray) (st : Option Nat) (w : World) (e' : Ending) (w' : World) : Prop :=
  KeepsBut (fun k => k = o) w w' ∧ e' = .returned (.int .u64 ((rd 0 rvar s.data.toList st).1 : Nat)) ∧ St w' o s (rd 0 rvar s.data.toList st).2

theorem var_st (o : Nat) (s : ByteArray) (st : Option Nat) (w : World) (h : St w o s st) (hs : s.size ≤ 140737488351232) :
    Calls Try.prog 61 #[.pointer (some ⟨o, 0, none⟩)] w (VarPost o s st w) := by
  cases st with
  | none =>
    obtain ⟨a, e, he, hi⟩ := h
    refine (var_dead o a e s w hi he).mono ?_
    rintro e' w' ⟨rfl, rfl⟩
    exact ⟨KeepsBut.refl _ _, rfl, _, _, he, hi⟩
  | some a =>
    obtain ⟨ha, hi⟩ := h
    by_cases hlt : a < s.size
    · by_cases hn : s.size - a < lead s[a].toNat
      · refine (var_short o a s w hi hs hlt hn).mono ?_
        rintro e' w' ⟨rfl, hd, hk⟩
        have hr : rvar (s.data.toList.drop a) = none := by rw [rvar_at s a hlt, if_pos hn]
        refine ⟨hk, by rw [rd_none hr]; rfl, by rw [rd_none hr]; exact hd⟩
      · refine (var_rest o a s w hi hs hlt (by omega)).mono ?_
        rintro e' w' ⟨hk, ⟨hv, rfl, hi2⟩ | ⟨hv, rfl, hd⟩⟩
        · have hr : rvar (s.data.toList.drop a) = some (said s a (lead s[a].toNat), lead s[a].toNat) := by rw [rvar_at s a hlt, if_neg hn, if_pos hv]
          refine ⟨hk, by rw [rd_some hr], by rw [rd_some hr]; exact ⟨by omega, hi2⟩⟩
        · have hr : rvar (s.data.toList.drop a) = none := by rw [rvar_at s a hlt, if_neg hn, if_neg hv]
          refine ⟨hk, by rw [rd_none hr]; rfl, by rw [rd_none hr]; exact hd⟩
    · obtain rfl : a = s.size := by omega
      refine (var_empty o s w hi hs).mono ?_
      rintro e' w' ⟨rfl, hd, hk⟩
      have hr : rvar (s.data.toList.drop s.size) = none := by rw [List.drop_of_length_le (by simp)]; rfl
      refine ⟨hk, by rw [rd_none hr]; rfl, by rw [rd_none hr]; exact hd⟩

def IntPost (o most : Nat) (s : ByteArray) (st : Option Nat) (w : World) (e' : Ending) (w' : World) : Prop :=
  KeepsBut (fun k => k = o) w w' ∧ e' = .returned (.int .i64 ((rd 0 (rint most) s.data.toList st).1 : Nat)) ∧ St w' o s (rd 0 (rint most) s.data.toList st).2

set_option maxHeartbeats 1000000 in
set_option maxRecDepth 100000 in
theorem int_dead (o most : Nat) (s : ByteArray) (w : World) (h : Dead w o s) (hs : s.size ≤ 140737488351232) :
    Calls Try.prog 31 #[.pointer (some ⟨o, 0, none⟩), .int .i64 most] w fun e' w' => e' = .returned (.int .i64 0) ∧ w = w' := by
  obtain ⟨a, e, he, hi⟩ := h
  have HA := Lib.hid (at_any o a e s w hi)
  have HV := Lib.hid (var_dead o a e s w hi he)
  have HR := Lib.hid (ready_any o a e s w hi)
  have hz : (e == 0) = false := by rw [beq_eq_false_iff_ne]; exact he
  clear he hi
  go_enter Try.func31, Try.ntmps31
  go_wp2_with fail
  refine HA.out.mono ?_
  rintro r w ⟨rfl, rfl⟩
  go_wp2_with fail
  refine HV.out.mono ?_
  rintro r w ⟨rfl, rfl⟩
  go_wp2_with fail
  refine HR.out.mono ?_
  rintro r w ⟨rfl, rfl⟩
  go_wp2
  go_ret
  exact ⟨rfl, rfl⟩

set_option maxHeartbeats 1000000 in
set_option maxRecDepth 100000 in
theorem int_live (o most a : Nat) (s : ByteArray) (w : World) (h : InAt w o a 0 s) (ha : a ≤ s.size) (hs : s.size ≤ 140737488351232) (hm : most ≤ 4611686018427387904) :
    Calls Try.prog 31 #[.pointer (some ⟨o, 0, none⟩), .int .i64 most] w (IntPost o most s (some a) w) := by
  have HA := Lib.hid (at_any o a 0 s w h)
  have HV := Lib.hid (var_st o s (some a) w ⟨ha, h⟩ hs)
  go_enter Try.func31, Try.ntmps31
  go_wp2_with fail
  refine HA.out.mono ?_
  rintro r w ⟨rfl, rfl⟩
  go_wp2_with fail
  refine HV.out.mono ?_
  rintro r w1 ⟨hk, rfl, hst⟩
  cases hr : rvar (s.data.toList.drop a) with
  | none =>
    have hp : rint most (s.data.toList.drop a) = none := by unfold rint; rw [hr]
    rw [rd_none hr] at hst ⊢
    obtain ⟨a', e', he, hi⟩ := hst
    have HR := Lib.hid (ready_any o a' e' s w1 hi)
    have hz : (e' == 0) = false := by rw [beq_eq_false_iff_ne]; exact he
    have HP : Hid (IntPost o most s (some a) w (.returned (.int .i64 0)) w1) := ⟨hk, by rw [rd_none hp]; rfl, by rw [rd_none hp]; exact ⟨_, _, he, hi⟩⟩
    clear hr hp he hi hk
    go_wp2_with fail
    refine HR.out.mono ?_
    rintro r w1 ⟨rfl, rfl⟩
    go_wp2
    go_ret
    exact HP.out
  | some xn =>
    obtain ⟨x, n⟩ := xn
    have hbd := rvar_bd hr
    rw [rd_some hr] at hst ⊢
    obtain ⟨han, hi⟩ := hst
    have HR := Lib.hid (ready_any o _ 0 s w1 hi)
    by_cases hx : x ≤ most
    · have hp : rint most (s.data.toList.drop a) = some (x, n) := by unfold rint; rw [hr]; exact if_pos hx
      have HP : Hid (IntPost o most s (some a) w (.returned (.int .i64 x)) w1) := ⟨hk, by rw [rd_some hp], by rw [rd_some hp]; exact ⟨han, hi⟩⟩
      clear hr hp hi hk
      go_wp2_with fail
      refine HR.out.mono ?_
      rintro r w1 ⟨rfl, rfl⟩
      go_wp2
      go_ret
      exact HP.out
    · have hp : rint most (s.data.toList.drop a) = none := by unfold rint; rw [hr]; exact if_neg hx
      have HI := Lib.hid hi
      have HK := Lib.hid hk
      have HP := Lib.hid hp
      clear hr hp hi hk
      go_wp2_with fail
      refine HR.out.mono ?_
      rintro r w1 ⟨rfl, rfl⟩
      go_wp2_with fail
      refine (stand_any o _ 0 _ _ s _ HI.out).mono ?_
      rintro r w2 ⟨rfl, hI, hK⟩
      have HQ : Hid (IntPost o most s (some a) w (.returned (.int .i64 0)) w2) := ⟨HK.out.trans hK, by rw [rd_none HP.out]; rfl, by rw [rd_none HP.out]; exact ⟨_, _, by omega, hI⟩⟩
      clear hI hK
      go_wp2
      go_ret
      exact HQ.out

theorem int_st (o most : Nat) (s : ByteArray) (st : Option Nat) (w : World) (h : St w o s st) (hs : s.size ≤ 140737488351232) (hm : most ≤ 4611686018427387904) :
    Calls Try.prog 31 #[.pointer (some ⟨o, 0, none⟩), .int .i64 most] w (IntPost o most s st w) := by
  cases st with
  | none =>
    refine (int_dead o most s w h hs).mono ?_
    rintro e' w' ⟨rfl, rfl⟩
    exact ⟨KeepsBut.refl _ _, rfl, h⟩
  | some a => exact int_live o most a s w h.2 h.1 hs hm
end Go.Proofs.Ytmkcphelmgkipaa
