import Derived.Test.YtmkcphelmgkipaaT18
set_option linter.unusedVariables false
set_option linter.unusedSimpArgs false
namespace Go.Proofs.Ytmkcphelmgkipaa
open Go.RowKit
attribute [local go_sem ↓] Go.wp_at_zero Go.wp_at_succ

theorem InAt.drewN {w : World} {o : Nat} {a e : Int} {s : ByteArray} (h : InAt w o a e s) (n : Nat) : InAt (w.drewN n) o a e s := h
theorem keeps_drewN (X : Nat → Prop) (w : World) (n : Nat) : KeepsBut X w (w.drewN n) := ⟨rfl, rfl, rfl, Nat.le_refl _, fun _ _ _ => rfl⟩

set_option maxHeartbeats 1000000 in
set_option maxRecDepth 100000 in
theorem take_dead (o : Nat) (a e n : Int) (s : ByteArray) (w : World) (h : InAt w o a e s) (he : e ≠ 0) :
    Calls Try.prog 57 #[.pointer (some ⟨o, 0, none⟩), .int .i64 n] w fun e' w' => e' = .returned (.string (str [])) ∧ w = w' := by
  have HR := Lib.hid (ready_any o a e s w h)
  have hz : (e == 0) = false := by rw [beq_eq_false_iff_ne]; exact he
  clear h he
  go_enter Try.func57, Try.ntmps57
  go_wp2_with (go_at_call 59; refine HR.out.mono ?_; rintro r w ⟨rfl, rfl⟩)
  go_ret
  exact ⟨rfl, rfl⟩

set_option maxHeartbeats 1000000 in
set_option maxRecDepth 100000 in
theorem take_short (o a n : Nat) (s : ByteArray) (w : World) (h : InAt w o a 0 s) (ha : a ≤ s.size) (hs : s.size ≤ 140737488351232) (hn : s.size - a < n) :
    Calls Try.prog 57 #[.pointer (some ⟨o, 0, none⟩), .int .i64 n] w fun e' w' => e' = .returned (.string (str [])) ∧ InAt w' o a 10 s ∧ KeepsBut (fun k => k = o) w w' := by
  have HR := Lib.hid (ready_any o a 0 s w h)
  have h0 := h.c0
  have h2 := h.c2
  have hlt : (s.size : Int) - a < n := by omega
  have H := Lib.hid h
  clear h
  go_enter Try.func57, Try.ntmps57
  go_wp2_with fail
  refine HR.out.mono ?_
  rintro r w ⟨rfl, rfl⟩
  go_wp2
  go_quiet (fail)
  go_wp2
  go_region_with (go_at_call 58; refine (stand_any o a 0 _ _ s _ ?_).mono ?_; (exact H.out); rintro r w' ⟨rfl, hI, hK⟩)
  all_goals
    go_wp2
    go_ret
    exact ⟨rfl, hI, (keeps_drewN _ w _).trans hK⟩

set_option maxHeartbeats 1000000 in
set_option maxRecDepth 100000 in
theorem take_ok (o a n : Nat) (s : ByteArray) (w : World) (h : InAt w o a 0 s) (hs : s.size ≤ 140737488351232) (hn : a + n ≤ s.size) :
    Calls Try.prog 57 #[.pointer (some ⟨o, 0, none⟩), .int .i64 n] w fun e' w' => e' = .returned (.string (s.extract a (a + n))) ∧ InAt w' o ((a + n : Nat) : Int) 0 s ∧ KeepsBut (fun k => k = o) w w' := by
  have HR := Lib.hid (ready_any o a 0 s w h)
  have h0 := h.c0
  have h2 := h.c2
  have f0 := h.f0 0
  have hlt : (n : Int) ≤ (s.size : Int) - a := by omega
  have H := Lib.hid h
  clear h
  go_enter Try.func57, Try.ntmps57
  go_wp2_with fail
  refine HR.out.mono ?_
  rintro r w ⟨rfl, rfl⟩
  go_wp2
  go_quiet (fail)
  go_wp2
  obtain ⟨W, hW⟩ : ∃ W, W = (w.drewN nq).setCell ⟨o, 0, none⟩ (.int .i64 ((a : Int) + n)) := ⟨_, rfl⟩
  rw [← hW]
  have hI : InAt W o ((a : Int) + n) 0 s := by rw [hW]; exact heap_setCell_same (w.drewN nq) o 0 _ 103 (.int .i64 ((a : Int) + n)) H.out
  have hK : KeepsBut (fun k => k = o) w W := by rw [hW]; exact (keeps_drewN _ w nq).trans (KeepsBut.setCell (X := fun k => k = o) _ (p := ⟨o, 0, none⟩) rfl _)
  have g0 := hI.c0
  have g2 := hI.c2
  have b1 : (0 : Int) ≤ (a : Int) + n - n := by omega
  have b2 : (a : Int) + n - n ≤ (a : Int) + n := by omega
  have b3 : (a : Int) + n ≤ (s.size : Int) := by omega
  have HI := Lib.hid hI
  have HK := Lib.hid hK
  clear hW hI hK h0 h2 f0
  go_quiet (fail)
  go_wp2
  go_ret
  exact ⟨by show Ending.returned (.string _) = _; congr 3, HI.out, HK.out.trans (keeps_drewN _ W _)⟩

theorem wrap_u64_eq (n : Int) : IntKind.u64.wrap n = n % 18446744073709551616 := by simp [IntKind.wrap, IntKind.bits, IntKind.signed]

theorem bits_u64_or (x y : Nat) (hx : x < 18446744073709551616) (hy : y < 18446744073709551616) : bits BinOp.or IntKind.u64 x y = ((x ||| y : Nat) : Int) := by
  have e : ∀ a : Nat, a < 18446744073709551616 → (BitVec.ofInt 64 (a : Int)).toNat = a := fun a ha => by
    rw [BitVec.ofInt_natCast, BitVec.toNat_ofNat]; exact Nat.mod_eq_of_lt ha
  have h1 : x ||| y < 2 ^ 64 := Nat.or_lt_two_pow (by omega) (by omega)
  show IntKind.u64.wrap ((BitVec.ofInt 64 (x : Int) ||| BitVec.ofInt 64 (y : Int)).toNat : Int) = _
  rw [BitVec.toNat_or, e x hx, e y hy, wrap_u64_eq]; omega

/-- High bits and low bits. -/
theorem or_join (h l k : Nat) (hl : l < 2 ^ k) (hs : 2 ^ k * h + l < 18446744073709551616) : bits BinOp.or IntKind.u64 ((2 ^ k * h : Nat) : Int) (l : Int) = ((2 ^ k * h + l : Nat) : Int) := by
  rw [bits_u64_or _ _ (by omega) (by omega), ← Nat.two_pow_add_eq_or_of_lt hl]

theorem or_join' (h l k : Nat) (hl : l < 2 ^ k) (hs : 2 ^ k * h + l < 18446744073709551616) : bits BinOp.or IntKind.u64 (l : Int) ((2 ^ k * h : Nat) : Int) = ((2 ^ k * h + l : Nat) : Int) := by
  rw [bits_u64_or _ _ (by omega) (by omega), Nat.or_comm, ← Nat.two_pow_add_eq_or_of_lt hl]

theorem beFrom_take_lt (s : ByteArray) (k j : Nat) (hk : k ≤ j) : beFrom 0 (s.data.toList.take k) < 256 ^ j := by
  have h1 := beFrom_lt (s.data.toList.take k)
  have h2 : (s.data.toList.take k).length ≤ k := by rw [List.length_take]; omega
  exact Nat.lt_of_lt_of_le h1 (Nat.pow_le_pow_right (by omega) (by omega))

set_option maxHeartbeats 1000000 in
set_option maxRecDepth 100000 in
theorem wnumber_any (s : ByteArray) (w : World) (hs : s.size ≤ 8) :
    Calls Try.prog 60 #[.string s] w fun e' w' => e' = .returned (.int .u64 (beFrom 0 s.data.toList : Nat)) ∧ w = w' := by
  go_enter Try.func60, Try.ntmps60
  go_wp2
  go_loop [3, 7] (fun x i => ∃ k : Nat, i = .int .i64 k ∧ k ≤ s.size ∧ x = .int .u64 (beFrom 0 (s.data.toList.take k) : Nat)) (fun _ i => s.size - (intOf i).toNat)
  case atStart => exact ⟨0, rfl, by omega, rfl⟩
  case round =>
    obtain ⟨k, rfl, hk, rfl⟩ := hrel
    by_cases hlt : k < s.size
    · have hb := UInt8.toNat_lt s[k]
      have hx := beFrom_take_lt s k 7 (by omega)
      simp only [Nat.reducePow] at hx
      have HT := Lib.hid (take_snoc s k hlt)
      have HS := Lib.hid (beFrom_snoc 0 (s.data.toList.take k) s[k])
      generalize hX : beFrom 0 (s.data.toList.take k) = x at *
      have HX := Lib.hid hX
      clear hX
      go_wp2
      go_round
      case rel =>
        refine ⟨k + 1, by go_num, by omega, ?_⟩
        rw [HT.out, HS.out]
        have h1 := or_join x s[k].toNat 8 hb (by omega)
        have h2 : ((2 ^ 8 * x : Nat) : Int) = (x : Int) * 256 := by omega
        rw [h2] at h1
        rw [h1]
      case measure => simp [intOf]; omega
    · obtain rfl : k = s.size := by omega
      go_wp2
      go_ret
      exact ⟨ret_int (by rw [List.take_of_length_le (by simp)]), rfl⟩
end Go.Proofs.Ytmkcphelmgkipaa
