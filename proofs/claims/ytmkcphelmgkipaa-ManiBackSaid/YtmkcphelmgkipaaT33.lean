import Derived.Test.YtmkcphelmgkipaaT32
set_option linter.unusedVariables false
set_option linter.unusedSimpArgs false
namespace Go.Proofs.Ytmkcphelmgkipaa
open Go.RowKit

theorem rdecode_any (s : ByteArray) (w : World) (hs : s.size ≤ 1000000) : Calls Try.prog 9 #[.string s] w (ManPost (qdman s.data.toList) w) := by
  cases ho : opened s.data.toList with
  | mk A c =>
    unfold qdman
    rw [ho]
    by_cases hc : c = 0
    · subst hc
      simp only [ne_eq, not_true_eq_false, if_false]
      by_cases hp : Lib.hasPrefix A [77, 65, 78, 50] = true
      · rw [if_neg (by rw [hp]; simp)]
        have hl := opened_le s.data.toList
        rw [ho] at hl
        exact rdecode_main s w hs ho hp (prefix_four hp).1 (by simpa using hl) rfl
      · rw [if_pos (by simpa using hp)]
        exact rdecode_kind s w (by omega) ho (by simpa using hp)
    · rw [if_pos hc]
      exact rdecode_bad s w (by omega) ho hc

/-! The two decoders answer alike: in either the limits on the way follow from the check at the end. -/

theorem rint_narrow {M m : Nat} {r : List UInt8} {x n : Nat} (h : rint M r = some (x, n)) (hx : x ≤ m) : rint m r = some (x, n) := by
  have := (rint_n h).2.2.2
  unfold rint
  rw [this]
  exact if_pos hx

theorem rtext_narrow {M m : Nat} {r t : List UInt8} {n : Nat} (h : rtext M r = some (t, n)) (ht : t.length ≤ m) : rtext m r = some (t, n) := by
  unfold rtext at h
  cases hr : rint M r with
  | none => rw [hr] at h; cases h
  | some xk =>
    obtain ⟨x, k⟩ := xk
    rw [hr] at h
    simp only at h
    split at h
    · rename_i hle
      cases h
      have hx : x ≤ m := by
        rw [List.length_take, List.length_drop] at ht
        omega
      unfold rtext
      rw [rint_narrow hr hx]
      exact if_pos hle
    · cases h

theorem rd_int_narrow {M m : Nat} {t : List UInt8} {st : Option Nat} {b : Nat} (h : (rd 0 (rint M) t st).2 = some b) (hx : (rd 0 (rint M) t st).1 ≤ m) : rd 0 (rint m) t st = rd 0 (rint M) t st := by
  obtain ⟨a, v, n, rfl, hf, rfl, hv⟩ := rd_alive h
  rw [hv] at hx
  rw [rd_some hf, rd_some (rint_narrow hf hx)]

theorem rd_text_narrow {M m : Nat} {t : List UInt8} {st : Option Nat} {b : Nat} (h : (rd [] (rtext M) t st).2 = some b) (hx : (rd [] (rtext M) t st).1.length ≤ m) : rd [] (rtext m) t st = rd [] (rtext M) t st := by
  obtain ⟨a, v, n, rfl, hf, rfl, hv⟩ := rd_alive h
  rw [hv] at hx
  rw [rd_some hf, rd_some (rtext_narrow hf hx)]

theorem rd_text_most (m : Nat) (t : List UInt8) (st : Option Nat) : (rd [] (rtext m) t st).1.length ≤ m := by
  cases st with
  | none => simp [rd]
  | some a =>
    cases hr : rtext m (t.drop a) with
    | none => rw [rd_none hr]; simp
    | some vn =>
      obtain ⟨v, n⟩ := vn
      rw [rd_some hr]
      show v.length ≤ m
      unfold rtext at hr
      cases hi : rint m (t.drop a) with
      | none => rw [hi] at hr; cases hr
      | some xk =>
        obtain ⟨x, k⟩ := xk
        rw [hi] at hr
        simp only at hr
        have := (rint_n hi).2.2.1
        split at hr
        · cases hr; simp; omega
        · cases hr

def gsnap (mt mi : Nat) (t : List UInt8) (st : Option Nat) : Snp × Option Nat :=
  (⟨str (rd [] (rtext mt) t st).1, ((rd 0 (rint mi) t (rd [] (rtext mt) t st).2).1 : Nat), ((rd 0 (rint mi) t (rd 0 (rint mi) t (rd [] (rtext mt) t st).2).2).1 : Nat)⟩,
   (rd 0 (rint mi) t (rd 0 (rint mi) t (rd [] (rtext mt) t st).2).2).2)
def gsnaps (mt mi : Nat) (t : List UInt8) : Nat → Option Nat → List Snp × Option Nat
  | 0, st => ([], st)
  | k + 1, st => ((gsnaps mt mi t k st).1 ++ [(gsnap mt mi t (gsnaps mt mi t k st).2).1], (gsnap mt mi t (gsnaps mt mi t k st).2).2)
theorem rsnaps_g (t : List UInt8) (k : Nat) (st : Option Nat) : rsnaps t k st = gsnaps 64 1099511627776 t k st := by
  induction k with
  | zero => rfl
  | succ k ih => show (_, _) = (_, _); rw [ih]; rfl
theorem qsnaps_g (t : List UInt8) (k : Nat) (st : Option Nat) : qsnaps t k st = gsnaps 1000 1125899906842624 t k st := by
  induction k with
  | zero => rfl
  | succ k ih => show (_, _) = (_, _); rw [ih]; rfl

theorem gsnap_narrow {M I m i : Nat} {t : List UInt8} {st : Option Nat} {b : Nat} (h : (gsnap M I t st).2 = some b)
    (hx : (gsnap M I t st).1.name.size ≤ m ∧ (gsnap M I t st).1.seq ≤ i ∧ (gsnap M I t st).1.upto ≤ i) : gsnap m i t st = gsnap M I t st := by
  obtain ⟨h1, h2, h3⟩ := hx
  unfold gsnap at h h1 h2 h3
  simp only at h h1 h2 h3
  rw [str_size] at h1
  obtain ⟨a1, v1, n1, e1, f1, hb1, _⟩ := rd_alive h
  obtain ⟨a2, v2, n2, e2, f2, hb2, _⟩ := rd_alive e1
  have g1 := rd_text_narrow (m := m) e2 h1
  have g2 := rd_int_narrow (m := i) e1 (by omega)
  have g3 := rd_int_narrow (m := i) h (by omega)
  unfold gsnap
  rw [g1, g2, g3]

theorem gsnap_alive {M I : Nat} {t : List UInt8} {st : Option Nat} {b : Nat} (h : (gsnap M I t st).2 = some b) : ∃ a, st = some a := by
  obtain ⟨a1, v1, n1, e1, f1, hb1, _⟩ := rd_alive (show (rd 0 (rint I) t (rd 0 (rint I) t (rd [] (rtext M) t st).2).2).2 = some b from h)
  obtain ⟨a2, v2, n2, e2, f2, hb2, _⟩ := rd_alive e1
  obtain ⟨a3, v3, n3, e3, f3, hb3, _⟩ := rd_alive e2
  exact ⟨a3, e3⟩

theorem gsnaps_narrow {M I m i : Nat} {t : List UInt8} {st : Option Nat} (k : Nat) {b : Nat} (h : (gsnaps M I t k st).2 = some b)
    (hx : ∀ x ∈ (gsnaps M I t k st).1, x.name.size ≤ m ∧ x.seq ≤ i ∧ x.upto ≤ i) : gsnaps m i t k st = gsnaps M I t k st := by
  induction k generalizing b with
  | zero => rfl
  | succ k ih =>
    obtain ⟨a, ha⟩ := gsnap_alive (show (gsnap M I t (gsnaps M I t k st).2).2 = some b from h)
    have e1 := ih ha (fun x hm => hx x (List.mem_append_left _ hm))
    have e2 := gsnap_narrow (m := m) (i := i) (show (gsnap M I t (gsnaps M I t k st).2).2 = some b from h) (hx _ (List.mem_append_right _ (List.mem_singleton.mpr rfl)))
    show (_, _) = (_, _)
    rw [e1, e2]

theorem gsnaps_alive {M I : Nat} {t : List UInt8} {st : Option Nat} (k : Nat) {b : Nat} (h : (gsnaps M I t k st).2 = some b) : ∃ a, st = some a := by
  induction k generalizing b with
  | zero => exact ⟨b, h⟩
  | succ k ih =>
    obtain ⟨a, ha⟩ := gsnap_alive (show (gsnap M I t (gsnaps M I t k st).2).2 = some b from h)
    exact ih ha

theorem gsnaps_most (M I : Nat) (t : List UInt8) (st : Option Nat) (k : Nat) : ∀ x ∈ (gsnaps M I t k st).1, x.name.size ≤ M ∧ x.seq ≤ I ∧ x.upto ≤ I := by
  induction k with
  | zero => intro x hx; cases hx
  | succ k ih =>
    intro x hx
    rcases List.mem_append.mp hx with h | h
    · exact ih x h
    · rw [List.mem_singleton] at h
      subst h
      refine ⟨?_, ?_, ?_⟩
      · show (str _).size ≤ _; rw [str_size]; exact rd_text_most _ _ _
      · show ((rd 0 (rint I) t _).1 : Int) ≤ _; have := rd_int_le I t (rd [] (rtext M) t (gsnaps M I t k st).2).2; omega
      · show ((rd 0 (rint I) t _).1 : Int) ≤ _; have := rd_int_le I t (rd 0 (rint I) t (rd [] (rtext M) t (gsnaps M I t k st).2).2).2; omega

theorem p_to_q {T : List UInt8} {b : Nat} (h : pend T = some b) : qman T = pman T ∧ qend T = some b := by
  unfold pend at h
  rw [rsnaps_g] at h
  obtain ⟨a7, h7⟩ := gsnaps_alive _ h
  obtain ⟨a6, _, _, h6, _⟩ := rd_alive (show (rd 0 (rint 100) T (p6 T).2).2 = some a7 from h7)
  obtain ⟨a5, _, _, h5, _⟩ := rd_alive (show (rd 0 (rint 1099511627776) T (p5 T).2).2 = some a6 from h6)
  obtain ⟨a4, _, _, h4, _⟩ := rd_alive (show (rd [] (rtext 64) T (p4 T).2).2 = some a5 from h5)
  obtain ⟨a3, _, _, h3, _⟩ := rd_alive (show (rd 0 (rint 65536) T (p3 T).2).2 = some a4 from h4)
  obtain ⟨a2, _, _, h2, _⟩ := rd_alive (show (rd 0 (rint 1099511627776) T (p2 T).2).2 = some a3 from h3)
  obtain ⟨a1, _, _, h1, _⟩ := rd_alive (show (rd 0 (rfixed 8) T (p1 T).2).2 = some a2 from h2)
  have e1 : q1 T = p1 T := rd_text_narrow (m := 1000) (show (rd [] (rtext 64) T (some 0)).2 = some a1 from h1) (by have := rd_text_most 64 T (some 0); omega)
  have e2 : q2 T = p2 T := by unfold q2 p2; rw [e1]
  have e3 : q3 T = p3 T := by unfold q3; rw [e2]; exact rd_int_narrow (show (rd 0 (rint 1099511627776) T (p2 T).2).2 = some a3 from h3) (by have := rd_int_le 1099511627776 T (p2 T).2; omega)
  have e4 : q4 T = p4 T := by unfold q4; rw [e3]; exact rd_int_narrow (show (rd 0 (rint 65536) T (p3 T).2).2 = some a4 from h4) (by have := rd_int_le 65536 T (p3 T).2; omega)
  have e5 : q5 T = p5 T := by unfold q5; rw [e4]; exact rd_text_narrow (show (rd [] (rtext 64) T (p4 T).2).2 = some a5 from h5) (by have := rd_text_most 64 T (p4 T).2; omega)
  have e6 : q6 T = p6 T := by unfold q6; rw [e5]; exact rd_int_narrow (show (rd 0 (rint 1099511627776) T (p5 T).2).2 = some a6 from h6) (by have := rd_int_le 1099511627776 T (p5 T).2; omega)
  have e7 : q7 T = p7 T := by unfold q7; rw [e6]; exact rd_int_narrow (show (rd 0 (rint 100) T (p6 T).2).2 = some a7 from h7) (by have := rd_int_le 100 T (p6 T).2; omega)
  have e8 : qsnaps T (p7 T).1 (p7 T).2 = rsnaps T (p7 T).1 (p7 T).2 := by
    rw [qsnaps_g, rsnaps_g]
    exact gsnaps_narrow _ h (fun x hx => by have := gsnaps_most _ _ _ _ _ x hx; omega)
  constructor
  · unfold qman pman; rw [e1, e2, e3, e4, e5, e6, e7, e8]
  · unfold qend; rw [e7, e8, rsnaps_g]; exact h

theorem q_to_p {T : List UInt8} {b : Nat} (h : qend T = some b) (hc : chk (qman T) = 0) : pman T = qman T ∧ pend T = some b := by
  have hg := chk_good hc
  unfold qend at h
  rw [qsnaps_g] at h
  obtain ⟨a7, h7⟩ := gsnaps_alive _ h
  obtain ⟨a6, _, _, h6, _⟩ := rd_alive (show (rd 0 (rint 1125899906842624) T (q6 T).2).2 = some a7 from h7)
  obtain ⟨a5, _, _, h5, _⟩ := rd_alive (show (rd 0 (rint 1125899906842624) T (q5 T).2).2 = some a6 from h6)
  obtain ⟨a4, _, _, h4, _⟩ := rd_alive (show (rd [] (rtext 1000) T (q4 T).2).2 = some a5 from h5)
  obtain ⟨a3, _, _, h3, _⟩ := rd_alive (show (rd 0 (rint 1125899906842624) T (q3 T).2).2 = some a4 from h4)
  obtain ⟨a2, _, _, h2, _⟩ := rd_alive (show (rd 0 (rint 1125899906842624) T (q2 T).2).2 = some a3 from h3)
  obtain ⟨a1, _, _, h1, _⟩ := rd_alive (show (rd 0 (rfixed 8) T (q1 T).2).2 = some a2 from h2)
  have l1 : (q1 T).1.length ≤ 64 := by have := (vol_size hg.vol).2; unfold qman at this; simp only at this; rw [str_data] at this; omega
  have l3 : (q3 T).1 ≤ 1099511627776 := by have := hg.serial; unfold qman at this; simp only at this; omega
  have l4 : (q4 T).1 ≤ 65536 := by have := hg.size; unfold qman at this; simp only at this; omega
  have l5 : (q5 T).1.length ≤ 64 := by have := (may_size hg.may).1; unfold qman at this; simp only at this; rw [str_data] at this; omega
  have l6 : (q6 T).1 ≤ 1099511627776 := by have := (may_size hg.may).2; unfold qman at this; simp only at this; omega
  have l7 : (q7 T).1 ≤ 100 := by have := hg.many; unfold qman at this; simp only at this; rw [qsnaps_length] at this; omega
  have e1 : p1 T = q1 T := rd_text_narrow (m := 64) (show (rd [] (rtext 1000) T (some 0)).2 = some a1 from h1) l1
  have e2 : p2 T = q2 T := by unfold q2 p2; rw [e1]
  have e3 : p3 T = q3 T := by unfold p3; rw [e2]; exact rd_int_narrow (show (rd 0 (rint 1125899906842624) T (q2 T).2).2 = some a3 from h3) l3
  have e4 : p4 T = q4 T := by unfold p4; rw [e3]; exact rd_int_narrow (show (rd 0 (rint 1125899906842624) T (q3 T).2).2 = some a4 from h4) l4
  have e5 : p5 T = q5 T := by unfold p5; rw [e4]; exact rd_text_narrow (show (rd [] (rtext 1000) T (q4 T).2).2 = some a5 from h5) l5
  have e6 : p6 T = q6 T := by unfold p6; rw [e5]; exact rd_int_narrow (show (rd 0 (rint 1125899906842624) T (q5 T).2).2 = some a6 from h6) l6
  have e7 : p7 T = q7 T := by unfold p7; rw [e6]; exact rd_int_narrow (show (rd 0 (rint 1125899906842624) T (q6 T).2).2 = some a7 from h7) l7
  have e8 : rsnaps T (q7 T).1 (q7 T).2 = qsnaps T (q7 T).1 (q7 T).2 := by
    rw [qsnaps_g, rsnaps_g]
    refine gsnaps_narrow _ h (fun x hx => ?_)
    rw [← qsnaps_g] at hx
    obtain ⟨i, hi, rfl⟩ := List.mem_iff_getElem.mp hx
    have := hg.at i hi
    unfold qman at this
    simp only at this
    rw [List.getD_eq_getElem?_getD, List.getElem?_eq_getElem hi] at this
    simp only [Option.getD_some] at this
    omega
  constructor
  · unfold qman pman; rw [e1, e2, e3, e4, e5, e6, e7, e8]
  · unfold pend; rw [e7, e8, qsnaps_g]; exact h

theorem qRes_man (T : List UInt8) : qRes T = manRes T := by
  unfold qRes manRes
  by_cases h : pend T = some T.length ∧ chk (pman T) = 0
  · obtain ⟨h1, h2⟩ := p_to_q h.1
    rw [if_pos h, if_pos ⟨h2, by rw [h1]; exact h.2⟩, h1]
  · rw [if_neg h]
    refine if_neg (fun h' => h ?_)
    obtain ⟨h1, h2⟩ := q_to_p h'.1 h'.2
    exact ⟨h2, by rw [h1]; exact h'.2⟩

theorem qdman_dman (l : List UInt8) : qdman l = dman l := by
  unfold qdman dman
  rw [qRes_man]
  rfl
end Go.Proofs.Ytmkcphelmgkipaa
