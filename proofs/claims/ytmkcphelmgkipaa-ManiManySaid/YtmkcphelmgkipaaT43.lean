import Derived.Test.YtmkcphelmgkipaaT42
set_option linter.unusedVariables false
set_option linter.unusedSimpArgs false
namespace Go.Proofs.Ytmkcphelmgkipaa
open Go.RowKit

/-! What is read is what was written. -/

theorem rd_int_sound {M : Nat} {T : List UInt8} {st : Option Nat} {b : Nat} (h : (rd 0 (rint M) T st).2 = some b) :
    ∃ a, st = some a ∧ T.drop a = vr (rd 0 (rint M) T st).1 ++ T.drop b := by
  obtain ⟨a, v, n, rfl, hf, rfl, hv⟩ := rd_alive h
  obtain ⟨_, h2⟩ := rvar_sound (rint_n hf).2.2.2
  exact ⟨a, rfl, by rw [hv, ← List.drop_drop]; exact h2⟩

theorem rd_fixed_sound {T : List UInt8} {st : Option Nat} {b : Nat} (h : (rd 0 (rfixed 8) T st).2 = some b) :
    ∃ a, st = some a ∧ T.drop a = be (rd 0 (rfixed 8) T st).1 8 ++ T.drop b := by
  obtain ⟨a, v, n, rfl, hf, rfl, hv⟩ := rd_alive h
  refine ⟨a, rfl, ?_⟩
  rw [hv, ← List.drop_drop]
  unfold rfixed at hf
  split at hf
  · cases hf
  · cases hf
    have hl : ((T.drop a).take 8).length = 8 := by rw [List.length_take]; omega
    have := be_beFrom ((T.drop a).take 8)
    rw [hl] at this
    rw [this, List.take_append_drop]

theorem rd_text_sound {M : Nat} {T : List UInt8} {st : Option Nat} {b : Nat} (h : (rd [] (rtext M) T st).2 = some b) :
    ∃ a, st = some a ∧ T.drop a = txt (rd [] (rtext M) T st).1 ++ T.drop b := by
  obtain ⟨a, v, n, rfl, hf, rfl, hv⟩ := rd_alive h
  refine ⟨a, rfl, ?_⟩
  rw [hv, ← List.drop_drop]
  unfold rtext at hf
  cases hr : rint M (T.drop a) with
  | none => rw [hr] at hf; cases hf
  | some xk =>
    obtain ⟨x, k⟩ := xk
    rw [hr] at hf
    simp only at hf
    obtain ⟨_, h2⟩ := rvar_sound (rint_n hr).2.2.2
    have hk := (rint_n hr).2.1
    split at hf
    · rename_i hx
      cases hf
      have hl : (((T.drop a).drop k).take x).length = x := by rw [List.length_take, List.length_drop]; omega
      unfold txt
      rw [hl, List.append_assoc, ← List.drop_drop (i := x), List.take_append_drop]
      exact h2
    · cases hf

theorem rsnap_sound {T : List UInt8} {st : Option Nat} {b : Nat} (h : (rsnap T st).2 = some b) :
    ∃ a, st = some a ∧ T.drop a = snapBytes (rsnap T st).1 ++ T.drop b := by
  obtain ⟨a1, e1, d1⟩ := rd_int_sound (show (rd 0 (rint 1099511627776) T (rd 0 (rint 1099511627776) T (rd [] (rtext 64) T st).2).2).2 = some b from h)
  obtain ⟨a2, e2, d2⟩ := rd_int_sound e1
  obtain ⟨a3, e3, d3⟩ := rd_text_sound e2
  refine ⟨a3, e3, ?_⟩
  rw [d3, d2, d1]
  unfold snapBytes rsnap
  simp only [str_data, Int.toNat_natCast, List.append_assoc]

theorem rsnaps_sound {T : List UInt8} {st : Option Nat} (k : Nat) {b : Nat} (h : (rsnaps T k st).2 = some b) :
    ∃ a, st = some a ∧ T.drop a = snapsBytes (rsnaps T k st).1 ++ T.drop b := by
  induction k generalizing b with
  | zero => exact ⟨b, h, rfl⟩
  | succ k ih =>
    obtain ⟨a1, e1, d1⟩ := rsnap_sound (show (rsnap T (rsnaps T k st).2).2 = some b from h)
    obtain ⟨a, e, d⟩ := ih e1
    refine ⟨a, e, ?_⟩
    show _ = snapsBytes ((rsnaps T k st).1 ++ [(rsnap T (rsnaps T k st).2).1]) ++ _
    rw [d, d1, snapsBytes_append]
    simp [snapsBytes]

theorem enc_dman {l : List UInt8} {m : Man} (h : dman l = (m, 0)) : chk m = 0 ∧ enc m = l := by
  unfold dman at h
  split at h
  · rename_i hc; exact absurd (congrArg Prod.snd h) hc
  · rename_i hc
    split at h
    · cases h
    · rename_i hp
      split at h
      · rename_i hok
        obtain ⟨hpe, hck⟩ := hok
        have hpf : Lib.hasPrefix (opened l).1 [77, 65, 78, 50] = true := by simpa using hp
        obtain ⟨_, hA⟩ := prefix_four hpf
        obtain ⟨T, hT⟩ : ∃ T, T = (opened l).1.drop 4 := ⟨_, rfl⟩
        rw [← hT] at h hpe hck hA
        cases h
        refine ⟨hck, ?_⟩
        have hseal : sealed (opened l).1 = l := by
          unfold opened at hc ⊢
          split
          · rename_i h4; rw [if_pos h4] at hc; exact absurd (by decide : (10 : Int) ≠ 0) hc
          · rename_i h4
            rw [if_neg h4] at hc
            split
            · assumption
            · rename_i h5; rw [if_neg h5] at hc; exact absurd (by decide : (13 : Int) ≠ 0) hc
        obtain ⟨a7, f7, d8⟩ := rsnaps_sound _ (show (rsnaps T (p7 T).1 (p7 T).2).2 = some T.length from hpe)
        obtain ⟨a6, f6, d7⟩ := rd_int_sound (show (rd 0 (rint 100) T (p6 T).2).2 = some a7 from f7)
        obtain ⟨a5, f5, d6⟩ := rd_int_sound (show (rd 0 (rint 1099511627776) T (p5 T).2).2 = some a6 from f6)
        obtain ⟨a4, f4, d5⟩ := rd_text_sound (show (rd [] (rtext 64) T (p4 T).2).2 = some a5 from f5)
        obtain ⟨a3, f3, d4⟩ := rd_int_sound (show (rd 0 (rint 65536) T (p3 T).2).2 = some a4 from f4)
        obtain ⟨a2, f2, d3⟩ := rd_int_sound (show (rd 0 (rint 1099511627776) T (p2 T).2).2 = some a3 from f3)
        obtain ⟨a1, f1, d2⟩ := rd_fixed_sound (show (rd 0 (rfixed 8) T (p1 T).2).2 = some a2 from f2)
        obtain ⟨a0, f0, d1⟩ := rd_text_sound (show (rd [] (rtext 64) T (some 0)).2 = some a1 from f1)
        cases f0
        rw [d2, d3, d4, d5, d6, d7, d8, List.drop_length] at d1
        have hn : (rsnaps T (p7 T).1 (p7 T).2).1.length = (p7 T).1 := rsnaps_length _ _ _
        unfold enc
        rw [← hseal]
        congr 1
        rw [hA]
        have d1' : T = _ := d1
        conv => rhs; rw [d1']
        unfold front pman
        simp only [str_data, Int.toNat_natCast, hn, List.append_nil, List.append_assoc]
        rfl
      · cases h
end Go.Proofs.Ytmkcphelmgkipaa
