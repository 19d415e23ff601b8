import Derived.Test.YtmkcphelmgkipaaT19
set_option linter.unusedVariables false
set_option linter.unusedSimpArgs false
namespace Go.Proofs.Ytmkcphelmgkipaa
open Go.RowKit
attribute [local go_sem ↓] Go.wp_at_zero Go.wp_at_succ

theorem not_u8 : ∀ c : Fin 256, bits BinOp.xor IntKind.u8 IntKind.u8.max (c.val : Int) = ((255 - c.val : Nat) : Int) := by decide +kernel
theorem lead_lz : ∀ c : Fin 256, 8 - Lib.bitLen (255 - c.val) + 1 = lead c.val ∧ Lib.bitLen (255 - c.val) ≤ 8 := by decide +kernel
theorem low_bits : ∀ c : Fin 256, lead c.val ≠ 9 → bits BinOp.andNot IntKind.u8 (c.val : Int) (hd (lead c.val) : Int) = ((c.val - hd (lead c.val) : Nat) : Int) := by decide +kernel

theorem drop_at (s : ByteArray) (a : Nat) (h : a < s.size) : s.data.toList.drop a = s[a] :: s.data.toList.drop (a + 1) := by
  rw [List.drop_eq_getElem_cons (by simpa using h)]; rfl

/-- A reader that failed. -/
def Dead (w : World) (o : Nat) (s : ByteArray) : Prop := ∃ a e : Int, e ≠ 0 ∧ InAt w o a e s

set_option maxHeartbeats 1000000 in
set_option maxRecDepth 100000 in
theorem var_dead (o : Nat) (a e : Int) (s : ByteArray) (w : World) (h : InAt w o a e s) (he : e ≠ 0) :
    Calls Try.prog 61 #[.pointer (some ⟨o, 0, none⟩)] w fun e' w' => e' = .returned (.int .u64 0) ∧ w = w' := by
  have HR := Lib.hid (ready_any o a e s w h)
  have hz : (e == 0) = false := by rw [beq_eq_false_iff_ne]; exact he
  clear h he
  go_enter Try.func61, Try.ntmps61
  go_wp2_with (go_at_call 59; refine HR.out.mono ?_; rintro r w ⟨rfl, rfl⟩)
  go_ret
  exact ⟨rfl, rfl⟩

set_option maxHeartbeats 1000000 in
set_option maxRecDepth 100000 in
theorem var_empty (o : Nat) (s : ByteArray) (w : World) (h : InAt w o s.size 0 s) (hs : s.size ≤ 140737488351232) :
    Calls Try.prog 61 #[.pointer (some ⟨o, 0, none⟩)] w fun e' w' => e' = .returned (.int .u64 0) ∧ Dead w' o s ∧ KeepsBut (fun k => k = o) w w' := by
  have HR := Lib.hid (ready_any o _ 0 s w h)
  have HL := Lib.hid (left_any o s.size 0 s w h (Nat.le_refl _) hs)
  have h0 := h.c0
  have H := Lib.hid h
  clear h
  go_enter Try.func61, Try.ntmps61
  go_wp2_with fail
  refine HR.out.mono ?_
  rintro r w ⟨rfl, rfl⟩
  go_wp2_with fail
  refine HL.out.mono ?_
  rintro r w' ⟨rfl, n, rfl⟩
  rw [Int.sub_self]
  go_wp2_with fail
  refine (stand_any o s.size 0 _ _ s _ (H.out.drewN n)).mono ?_
  rintro r w' ⟨rfl, hI, hK⟩
  have HI := Lib.hid hI
  clear hI
  go_wp2
  go_ret
  exact ⟨rfl, ⟨_, _, by omega, HI.out⟩, (keeps_drewN _ w _).trans hK⟩

set_option maxHeartbeats 1000000 in
set_option maxRecDepth 100000 in
theorem var_short (o a : Nat) (s : ByteArray) (w : World) (h : InAt w o a 0 s) (hs : s.size ≤ 140737488351232) (ha : a < s.size) (hn : s.size - a < lead s[a].toNat) :
    Calls Try.prog 61 #[.pointer (some ⟨o, 0, none⟩)] w fun e' w' => e' = .returned (.int .u64 0) ∧ Dead w' o s ∧ KeepsBut (fun k => k = o) w w' := by
  have HR := Lib.hid (ready_any o _ 0 s w h)
  have HL := Lib.hid (left_any o a 0 s w h (by omega) hs)
  have h0 := h.c0
  have h2 := h.c2
  have H := Lib.hid h
  have hb := UInt8.toNat_lt s[a]
  have N1 := Lib.hid (not_u8 ⟨s[a].toNat, hb⟩)
  have N2 := Lib.hid (lead_lz ⟨s[a].toNat, hb⟩)
  have hne : ((s.size : Int) - a == 0) = false := by rw [beq_eq_false_iff_ne]; omega
  generalize hld : lead s[a].toNat = n at *
  have HLD := Lib.hid hld
  clear h hld
  go_enter Try.func61, Try.ntmps61
  go_wp2_with fail
  refine HR.out.mono ?_
  rintro r w ⟨rfl, rfl⟩
  go_wp2_with fail
  refine HL.out.mono ?_
  rintro r w' ⟨rfl, nq, rfl⟩
  go_wp2_with fail
  rw [N1.out]
  refine (Try.bits_LeadingZeros8 _ _ (by omega) (by omega)).mono ?_
  rintro r w' ⟨rfl, rfl⟩
  rw [Int.toNat_natCast]
  have e1 : (8 - (Lib.bitLen (255 - s[a].toNat) : Int)) = (n : Int) - 1 := by have := N2.out; omega
  rw [e1]
  clear e1
  have n1 : 1 ≤ n ∧ n ≤ 9 := by have := N2.out; omega
  go_wp2_with fail
  refine (take_short o a n s _ (H.out.drewN nq) (by omega) hs hn).mono ?_
  rintro r w' ⟨rfl, hI, hK⟩
  have HI := Lib.hid hI
  have h1 := hI.c1
  clear hI
  go_wp2
  go_ret
  exact ⟨rfl, ⟨_, _, by omega, HI.out⟩, (keeps_drewN _ w _).trans hK⟩

/-- What the bytes of a number say. -/
def said (s : ByteArray) (a n : Nat) : Nat := beFrom (if n = 9 then 0 else (s.data.toList.getD a 0).toNat - hd n) ((s.data.toList.drop (a + 1)).take (n - 1))

theorem var_val (c d n y : Nat) (h1 : 1 ≤ n) (h9 : n < 9) (hd' : d < 2 ^ (8 - n)) (hy : y < 256 ^ (n - 1)) (h : bits BinOp.andNot IntKind.u8 (c : Int) (hd n : Int) = (d : Int)) :
    bits BinOp.or IntKind.u64 (y : Int) (IntKind.u64.wrap (IntKind.u64.wrap (bits BinOp.andNot IntKind.u8 (c : Int) (hd n : Int)) * 2 ^ min (8 * (n - 1)) 64)) = ((d * 256 ^ (n - 1) + y : Nat) : Int) := by
  have e256 : (256 : Nat) ^ (n - 1) = 2 ^ (8 * (n - 1)) := by rw [Nat.pow_mul]
  have hmin : min (8 * (n - 1)) 64 = 8 * (n - 1) := by omega
  have hdl : d < 256 := by
    have : 2 ^ (8 - n) ≤ 2 ^ 8 := Nat.pow_le_pow_right (by omega) (by omega)
    omega
  have h2 : (d + 1) * 2 ^ (8 * (n - 1)) ≤ 2 ^ (8 - n) * 2 ^ (8 * (n - 1)) := Nat.mul_le_mul_right _ hd'
  have h3 : 2 ^ (8 - n) * 2 ^ (8 * (n - 1)) ≤ 2 ^ 56 := by rw [← Nat.pow_add]; exact Nat.pow_le_pow_right (by omega) (by omega)
  rw [Nat.add_mul, Nat.one_mul] at h2
  rw [e256] at hy ⊢
  rw [h, hmin, wrap_u64_eq, wrap_u64_eq]
  have e1 : ((d : Int) % 18446744073709551616) = d := by omega
  rw [e1]
  have e2 : (d : Int) * 2 ^ (8 * (n - 1)) = ((2 ^ (8 * (n - 1)) * d : Nat) : Int) := by rw [Int.natCast_mul, Int.mul_comm]; simp
  rw [e2]
  have e3 : 2 ^ (8 * (n - 1)) * d = d * 2 ^ (8 * (n - 1)) := Nat.mul_comm _ _
  have e4 : ((2 ^ (8 * (n - 1)) * d : Nat) : Int) % 18446744073709551616 = ((2 ^ (8 * (n - 1)) * d : Nat) : Int) := by rw [e3]; omega
  rw [e4, or_join' d y (8 * (n - 1)) hy (by rw [e3]; omega), e3]

theorem rvar_said_lt (s : ByteArray) (a n : Nat) {d y : Nat} (hn : 1 ≤ n ∧ n < 9) (h : said s a n = d * 256 ^ (n - 1) + y) (hd' : d < 2 ^ (8 - n)) (hy : y < 256 ^ (n - 1)) : said s a n < 18446744073709551616 := by
  have e256 : (256 : Nat) ^ (n - 1) = 2 ^ (8 * (n - 1)) := by rw [Nat.pow_mul]
  have h2 : (d + 1) * 2 ^ (8 * (n - 1)) ≤ 2 ^ (8 - n) * 2 ^ (8 * (n - 1)) := Nat.mul_le_mul_right _ hd'
  have h3 : 2 ^ (8 - n) * 2 ^ (8 * (n - 1)) ≤ 2 ^ 56 := by rw [← Nat.pow_add]; exact Nat.pow_le_pow_right (by omega) (by omega)
  rw [Nat.add_mul, Nat.one_mul] at h2
  rw [e256] at h hy
  omega

/-- What a number's reading leaves. -/
def VarEnd (o a n : Nat) (s : ByteArray) (w : World) (e' : Ending) (w' : World) : Prop :=
  KeepsBut (fun k => k = o) w w' ∧
      ((vsz (said s a n) = n ∧ e' = .returned (.int .u64 (said s a n : Nat)) ∧ InAt w' o ((a + n : Nat) : Int) 0 s) ∨
       (vsz (said s a n) ≠ n ∧ e' = .returned (.int .u64 0) ∧ Dead w' o s))

set_option maxHeartbeats 2000000 in
set_option maxRecDepth 100000 in
theorem var_rest (o a : Nat) (s : ByteArray) (w : World) (h : InAt w o a 0 s) (hs : s.size ≤ 140737488351232) (ha : a < s.size) (hn : lead s[a].toNat ≤ s.size - a) :
    Calls Try.prog 61 #[.pointer (some ⟨o, 0, none⟩)] w (VarEnd o a (lead s[a].toNat) s w) := by
  have HR := Lib.hid (ready_any o _ 0 s w h)
  have HL := Lib.hid (left_any o a 0 s w h (by omega) hs)
  have h0 := h.c0
  have h2 := h.c2
  have H := Lib.hid h
  have hb := UInt8.toNat_lt s[a]
  have N1 := Lib.hid (not_u8 ⟨s[a].toNat, hb⟩)
  have N2 := Lib.hid (lead_lz ⟨s[a].toNat, hb⟩)
  have hne : ((s.size : Int) - a == 0) = false := by rw [beq_eq_false_iff_ne]; omega
  have hld0 := lead_bd s[a].toNat
  have L3 := Lib.hid (low_bits ⟨s[a].toNat, hb⟩)
  generalize hld : lead s[a].toNat = n at *
  have HLD := Lib.hid hld
  clear h hld
  go_enter Try.func61, Try.ntmps61
  go_wp2_with fail
  refine HR.out.mono ?_
  rintro r w ⟨rfl, rfl⟩
  go_wp2_with fail
  refine HL.out.mono ?_
  rintro r w' ⟨rfl, nq, rfl⟩
  go_wp2_with fail
  rw [N1.out]
  refine (Try.bits_LeadingZeros8 _ _ (by omega) (by omega)).mono ?_
  rintro r w' ⟨rfl, rfl⟩
  rw [Int.toNat_natCast]
  have e1 : (8 - (Lib.bitLen (255 - s[a].toNat) : Int)) = (n : Int) - 1 := by have := N2.out; omega
  rw [e1]
  clear e1
  have n1 : 1 ≤ n ∧ n ≤ 9 := by have := N2.out; omega
  go_wp2_with fail
  refine (take_ok o a n s _ (H.out.drewN nq) hs (by omega)).mono ?_
  rintro r w' ⟨rfl, hI, hK⟩
  have HI := Lib.hid hI
  have h1 := hI.c1
  have HKK := Lib.hid ((keeps_drewN _ w nq).trans hK)
  clear hI hK
  have hes : (s.extract a (a + n)).size = n := by simp; omega
  obtain ⟨t, ht⟩ : ∃ t, t = s.extract a (a + n) := ⟨_, rfl⟩
  rw [← ht] at hes ⊢
  have hbs : 1 ≤ t.size := by omega
  have htail : (t.extract 1 t.size).data.toList = (s.data.toList.drop (a + 1)).take (n - 1) := by
    rw [ht, Lib.extract_data, Lib.extract_data, List.drop_take, List.drop_drop, List.take_of_length_le (by simp; omega), show a + n - a - 1 = n - 1 by omega]
  have ht0 : ∀ h : 0 < t.size, t[0].toNat = s[a].toNat := by
    intro h
    have e2 : t.data.toList[0]? = s.data.toList[a]? := by
      rw [ht, Lib.extract_data, List.getElem?_take_of_lt (by omega), List.getElem?_drop]; rfl
    have e3 : t.data.toList[0]? = some t[0] := by rw [List.getElem?_eq_getElem (by simpa using h)]; rfl
    have e4 : s.data.toList[a]? = some s[a] := by rw [List.getElem?_eq_getElem (by simpa using ha)]; rfl
    rw [e3, e4] at e2
    rw [Option.some.inj e2]
  have htz : (t.extract 1 t.size).size ≤ 8 := by simp; omega
  have HTL := Lib.hid htail
  have HT := Lib.hid ht
  have HES := Lib.hid hes
  clear htail ht
  have hyl := beFrom_lt (t.extract 1 t.size).data.toList
  have hyn : (t.extract 1 t.size).data.toList.length = n - 1 := by simp; omega
  rw [hyn] at hyl
  clear hyn hes
  go_wp2_with fail
  refine (wnumber_any _ w' htz).mono ?_
  rintro r w' ⟨rfl, rfl⟩
  rw [HTL.out] at hyl ⊢
  have hsd : (s.data.toList.getD a 0) = s[a] := by
    rw [List.getD_eq_getElem?_getD, List.getElem?_eq_getElem (by simpa using ha)]; rfl
  by_cases h9 : n = 9
  · have hsaid : said s a n = beFrom 0 ((s.data.toList.drop (a + 1)).take (n - 1)) := by unfold said; rw [if_pos h9]
    rw [← hsaid] at hyl ⊢
    have hlt : said s a n < 18446744073709551616 := by
      have : (256 : Nat) ^ (n - 1) = 18446744073709551616 := by rw [h9]
      omega
    obtain ⟨x, hx⟩ : ∃ x, x = said s a n := ⟨_, rfl⟩
    rw [← hx] at hlt hsaid ⊢
    have HXS := Lib.hid hx
    clear hx
    have H9 := Lib.hid h9
    have HS := Lib.hid hsaid
    have hn9 : ¬ n < 9 := by omega
    clear h9 hsaid hyl hsd
    go_wp2_with fail
    refine (size_any x (by omega) (by omega) _).mono ?_
    rintro r w' ⟨rfl, rfl⟩
    rw [Int.toNat_natCast]
    by_cases hv : vsz x = n
    · have hv' : ((vsz x : Int) != (n : Int)) = false := by rw [hv]; simp
      have HV := Lib.hid hv
      clear hv
      go_wp2
      go_ret
      refine ⟨HKK.out, .inl ?_⟩
      rw [← HXS.out]
      exact ⟨HV.out, rfl, HI.out⟩
    · have hv' : ((vsz x : Int) != (n : Int)) = true := by rw [bne_iff_ne]; omega
      have HV := Lib.hid hv
      clear hv
      go_wp2_with fail
      refine (stand_any o _ 0 _ _ s _ HI.out).mono ?_
      rintro r w'' ⟨rfl, hI, hK⟩
      have HI2 := Lib.hid hI
      clear hI
      go_wp2
      go_ret
      refine ⟨HKK.out.trans hK, .inr ?_⟩
      rw [← HXS.out]
      exact ⟨HV.out, rfl, _, _, by omega, HI2.out⟩
  · have hn9 : n < 9 := by omega
    have ht0' := ht0 (by omega)
    have hl9 : lead s[a].toNat ≠ 9 := by rw [HLD.out]; exact h9
    have hlh := lead_hd _ hb hl9
    have hlo := L3.out h9
    simp only [HLD.out] at hlh
    have hsaid : said s a n = (s[a].toNat - hd n) * 256 ^ (n - 1) + beFrom 0 ((s.data.toList.drop (a + 1)).take (n - 1)) := by
      unfold said
      rw [if_neg h9, hsd, beFrom_eq, ← HTL.out]
      congr 2
      rw [show (t.extract 1 t.size).data.toList.length = n - 1 by have := HES.out; simp; omega]
    have hval := var_val s[a].toNat (s[a].toNat - hd n) n (beFrom 0 ((s.data.toList.drop (a + 1)).take (n - 1))) n1.1 hn9 hlh.2 hyl hlo
    rw [← hsaid, ← ht0'] at hval
    have hlt : said s a n < 18446744073709551616 := by
      have := rvar_said_lt s a n (by omega) hsaid hlh.2 hyl
      exact this
    obtain ⟨x, hx⟩ : ∃ x, x = said s a n := ⟨_, rfl⟩
    rw [← hx] at hlt hval
    have HXS := Lib.hid hx
    have HVAL := Lib.hid hval
    have HT0 := Lib.hid ht0'
    generalize hy : beFrom 0 ((s.data.toList.drop (a + 1)).take (n - 1)) = y at *
    clear hy ht0 ht0' h9 hl9 hlh hlo hsaid hval hx
    go_wp2
    go_region_with (go_at_call 74; refine (head_any n (by omega) (by omega) _).mono ?_; rintro e w' ⟨rfl, rfl⟩)
    all_goals
      go_wp2_with fail
      rw [HVAL.out]
      refine (size_any x (by omega) (by omega) _).mono ?_
      rintro r w2 ⟨rfl, rfl⟩
      rw [Int.toNat_natCast]
      by_cases hv : vsz x = n
      · have hv' : ((vsz x : Int) != (n : Int)) = false := by rw [hv]; simp
        have HV := Lib.hid hv
        clear hv
        go_wp2
        go_ret
        refine ⟨HKK.out.trans (keeps_drewN _ w' 1), .inl ?_⟩
        rw [← HXS.out]
        exact ⟨HV.out, rfl, HI.out⟩
      · have hv' : ((vsz x : Int) != (n : Int)) = true := by rw [bne_iff_ne]; omega
        have HV := Lib.hid hv
        clear hv
        go_wp2_with fail
        refine (stand_any o _ 0 _ _ s w'.drew HI.out).mono ?_
        rintro r w'' ⟨rfl, hI, hK⟩
        have HI2 := Lib.hid hI
        clear hI
        go_wp2
        go_ret
        refine ⟨(HKK.out.trans (keeps_drewN _ w' 1)).trans hK, .inr ?_⟩
        rw [← HXS.out]
        exact ⟨HV.out, rfl, _, _, by omega, HI2.out⟩
end Go.Proofs.Ytmkcphelmgkipaa
