import Derived.Test.YtmkcphelmgkipaaT6
set_option linter.unusedVariables false
set_option linter.unusedSimpArgs false
namespace Go.Proofs.Ytmkcphelmgkipaa
open Go.RowKit
attribute [local go_sem ↓] Go.wp_at_zero Go.wp_at_succ

theorem vsz_lt (x n : Nat) (h : vsz x = n) (h8 : n ≤ 8) : x < 2 ^ (7 * n) := by
  unfold vsz at h
  repeat' split at h
  all_goals (subst h; first | omega | (simp only [Nat.reduceMul, Nat.reducePow]; omega))

theorem top_lt (x n : Nat) (h : vsz x = n) (h8 : n ≤ 8) (h1 : 1 ≤ n) : x / 256 ^ (n - 1) < 2 ^ (8 - n) := by
  have hx := vsz_lt x n h h8
  have e : (256 : Nat) ^ (n - 1) = 2 ^ (8 * (n - 1)) := by rw [Nat.pow_mul]
  rw [e, Nat.div_lt_iff_lt_mul (Nat.two_pow_pos _), ← Nat.pow_add]
  have : 8 - n + 8 * (n - 1) = 7 * n := by omega
  rw [this]; exact hx

theorem bits_u8_or (a b : Nat) (ha : a < 256) (hb : b < 256) : bits .or .u8 (a : Int) (b : Int) = ((a ||| b : Nat) : Int) := u8_or_nat a b ha hb

theorem hd_lt (n : Nat) (h1 : 1 ≤ n) (h9 : n ≤ 9) : hd n < 256 := by
  unfold hd; have := Nat.two_pow_pos (9 - n); omega

theorem hd_eq (n : Nat) (h1 : 1 ≤ n) (h9 : n ≤ 8) : hd n = 2 ^ (8 - n) * (2 * (2 ^ (n - 1) - 1)) := by
  have : n = 1 ∨ n = 2 ∨ n = 3 ∨ n = 4 ∨ n = 5 ∨ n = 6 ∨ n = 7 ∨ n = 8 := by omega
  rcases this with h | h | h | h | h | h | h | h <;> subst h <;> rfl

theorem top_or (x n : Nat) (h : vsz x = n) (h8 : n ≤ 8) (h1 : 1 ≤ n) :
    bits .or .u8 ((x / 256 ^ (n - 1) % 256 : Nat) : Int) (hd n : Int) = ((hd n + x / 256 ^ (n - 1) : Nat) : Int) ∧ hd n + x / 256 ^ (n - 1) < 256 := by
  have ht := top_lt x n h h8 h1
  have h28 : 2 ^ (8 - n) ≤ 128 := by
    have := Nat.pow_le_pow_right (n := 2) (by omega) (show 8 - n ≤ 7 by omega)
    simpa using this
  have hh := hd_lt n h1 (by omega)
  rw [bits_u8_or _ _ (by omega) hh, Nat.mod_eq_of_lt (by omega), hd_eq n h1 h8, Nat.or_comm, ← Nat.two_pow_add_eq_or_of_lt ht]
  refine ⟨rfl, ?_⟩
  rw [← hd_eq n h1 h8]
  have : 2 ^ (9 - n) = 2 * 2 ^ (8 - n) := by rw [← Nat.pow_succ']; congr 1; omega
  unfold hd; omega

theorem vr_nine (x : Nat) (h : vsz x = 9) (hx : x < 18446744073709551616) : vr x = 255 :: be x 8 := by
  unfold vr; rw [h]
  have : x / 256 ^ (9 - 1) = 0 := by simp only [Nat.reduceSub, Nat.reducePow]; omega
  rw [this]; rfl

def vrs (xs : List Nat) : List UInt8 := (xs.map vr).flatten
theorem vrs_snoc (xs : List Nat) (k : Nat) (h : k < xs.length) : vrs (xs.take (k + 1)) = vrs (xs.take k) ++ vr (xs.getD k 0) := by
  unfold vrs
  rw [List.take_succ_eq_append_getElem h, List.map_append, List.flatten_append]
  simp [h]
theorem vr_le (x : Nat) : (vr x).length ≤ 9 := by rw [vr_length]; exact (vsz_bd x).2
theorem vrs_le (xs : List Nat) : (vrs xs).length ≤ 9 * xs.length := by
  induction xs with
  | nil => simp [vrs]
  | cons x xs ih =>
    have := vr_le x
    simp only [vrs, List.map_cons, List.flatten_cons, List.length_append, List.length_cons] at ih ⊢
    omega
theorem vrs_take_le (xs : List Nat) (k : Nat) : (vrs (xs.take k)).length ≤ 9 * xs.length := by
  have h1 := vrs_le (xs.take k)
  have h2 : (xs.take k).length ≤ xs.length := by rw [List.length_take]; omega
  omega

theorem owns_slice {w : World} {base e size n : Nat} {v : Value} {xs : List Value} (h : w.ownsRow base e size v n xs) : ∃ a cap, v = .slice a n cap := by
  rcases h.2 with ⟨e1, e2⟩ | ⟨g, cap, cur, e1, _⟩
  · exact ⟨none, 0, by rw [e1, e2]⟩
  · exact ⟨_, cap, e1⟩

theorem out_stored {w : World} {o g n cap : Nat} {l r : List UInt8} {c d : UInt8} (h : OutAt w o (.slice (some ⟨g, 0, none⟩) n cap) (l ++ c :: r)) (hn : n = (l ++ c :: r).length) :
    OutAt (w.setCell ⟨g, l.length, none⟩ (.int .u8 d.toNat)).drew o (.slice (some ⟨g, 0, none⟩) n cap) (l ++ d :: r) ∧ OutTo w (w.setCell ⟨g, l.length, none⟩ (.int .u8 d.toNat)).drew o (.slice (some ⟨g, 0, none⟩) n cap) := by
  subst hn
  have hgo : o < g := h.own g rfl
  have hs := h.2.stored l.length (.int .u8 d.toNat)
  refine ⟨⟨?_, ?_⟩, ?_⟩
  · show (w.setCell _ _).heap[o]? = _
    rw [Below.heap_setCell _ _ _ _ (by show o ≠ g; omega)]; exact h.1
  · have e : (bvals (l ++ c :: r)).set l.length (.int .u8 (d.toNat : Int)) = bvals (l ++ d :: r) := by
      simp [bvals]
    rw [e] at hs
    have e2 : (l ++ c :: r).length = (l ++ d :: r).length := by simp
    rw [e2] at hs ⊢
    exact hs.1.drew
  · refine ⟨rfl, rfl, rfl, by simp, fun k hk h1 h2 => ?_⟩
    show (w.setCell _ _).heap[k]? = _
    exact Below.heap_setCell _ _ _ _ (fun e => h2 (by simp [Value.ownBlock, e]))

theorem vr_top (x n : Nat) (h : vsz x = n) : vr x = UInt8.ofNat (hd n + x / 256 ^ (n - 1)) :: be x (n - 1) := by unfold vr; rw [h]
theorem be_top (x n : Nat) (h : 1 ≤ n) : be x n = UInt8.ofNat (x / 256 ^ (n - 1) % 256) :: be x (n - 1) := by
  obtain ⟨n', rfl⟩ : ∃ n', n = n' + 1 := ⟨n - 1, by omega⟩
  rfl

set_option maxHeartbeats 400000 in
set_option maxRecDepth 100000 in
theorem var_any (o b off cap : Nat) (xs : List Nat) (v : Value) (l : List UInt8) (w : World) (hO : OutAt w o v l) (hl : l.length + 9 * xs.length ≤ 70368744177664) (hb : b < w.heap.size) (hbo : b ≠ o) (hbv : v.ownBlock ≠ some b)
    (hc : ∀ k, k < xs.length → w.cell? ⟨b, off + k, none⟩ = some (.int .u64 (xs.getD k 0 : Nat))) (hx : ∀ k, k < xs.length → xs.getD k 0 < 18446744073709551616) :
    Calls Try.prog 43 #[.pointer (some ⟨o, 0, none⟩), .slice (some ⟨b, off, none⟩) xs.length cap] w fun e w' => e = .returned (.tuple #[]) ∧
      ∃ v', OutAt w' o v' (l ++ vrs xs) ∧ OutTo w w' o v ∧ Stays w v v' := by
  obtain ⟨i0, hi, hz0, hz1, hz2⟩ := info_parts Try.info5
  have HC := Lib.hid hc; clear hc
  have HX := Lib.hid hx; clear hx
  have HBV := Lib.hid hbv; clear hbv
  go_enter Try.func43, Try.ntmps43
  go_wp2
  go_loopw [12] (fun i wr => ∃ (k : Nat) (u : Value), k ≤ xs.length ∧ i = .int .i64 k ∧ OutAt wr o u (l ++ vrs (xs.take k)) ∧ OutTo w wr o v ∧ Stays w v u)
    (fun i _ => xs.length - (intOf i).toNat)
  case atStart => exact ⟨0, v, by omega, rfl, by simpa [vrs] using hO, OutTo.refl _ _ _, Stays.refl _ _⟩
  case round =>
    obtain ⟨k, u, hk, rfl, hu, hto, hst⟩ := hrel
    by_cases hlt : k < xs.length
    · have hcell : wr.cell? ⟨b, off + k, none⟩ = some (.int .u64 (xs.getD k 0 : Nat)) := by
        rw [World.cell?_of_block (hto.block b hb hbo (fun e => HBV.out e.symm))]; exact HC.out k hlt
      have hxk := HX.out k hlt
      have HS := Lib.hid (vrs_snoc xs k hlt)
      have hle := vrs_take_le xs k
      obtain ⟨x, hx⟩ : ∃ x, x = xs.getD k 0 := ⟨_, rfl⟩
      rw [← hx] at hcell hxk HS
      clear hx
      have hc0 := hu.cell
      have hsz := vsz_bd x
      generalize hM : l ++ vrs (xs.take k) = m at *
      have hml : m.length ≤ 70368744177664 - 9 := by
        have := congrArg List.length hM
        simp only [List.length_append] at this
        have h2 := List.length_take_le k xs
        have h3 : (vrs (xs.take k)).length ≤ 9 * (xs.length - 1) := by
          have := vrs_le (xs.take k)
          rw [List.length_take] at this
          omega
        omega
      have HM := Lib.hid hM; clear hM
      by_cases h9 : vsz x = 9
      · go_wp2_with fail
        refine (size_any _ (by omega) (by omega) _).mono ?_
        rintro e w' ⟨rfl, rfl⟩
        rw [Int.toNat_natCast, h9]
        go_wp2_with (at_builtin; refine wpList_append_own_at _ rfl _ _ 52 rfl (o + 1) 5 i0 (.int .u8 0) 1 1 Try.underlying52 hi hz0 hz1 hz2 rfl (by decide) _ _ _ rfl (hu.2.alloc _) ⟨wr.heap.size, 0, none⟩ 1 1 [.int .u8 255] rfl rfl ?c1 ?c2 ?c3 ?c4 ?c5 ?_)
        case c1 => exact cell_one_new _ _ _
        case c2 => intro u hu; simp at hu; subst hu; rfl
        case c3 => simp [maxLen]; omega
        case c4 => simp; omega
        case c5 => have := hu.lt; simp; omega
        intro u' w1 hown' hgrow _ hat
        obtain ⟨g', cap', rfl⟩ := owns_form hown' (by omega)
        have hst' := stays_of (w := wr) hat (by omega)
        have hO' := out_append (m := [255]) hu ((Below.refl wr.heap.size wr).alloc (Nat.le_refl _) _) (n := m.length + 1) (by simp) (by rw [bvals_append]; exact hown') hgrow
        have hc1 := hO'.1
        have hf1 := hO'.2.1
        have HO := Lib.hid hO'.2.2
        clear hO' hown' hgrow hat
        go_wp2_with fail
        have hp := put_any o 8 (x : Int) _ _ (by omega) (by omega) (by omega) (by simp; omega) _ HO.out.1
        refine hp.mono ?_
        rintro e w' ⟨rfl, u2, ho2, ht2, hs2⟩
        rw [Int.toNat_natCast] at ho2
        have hR := vr_nine x h9 hxk
        have HR := Lib.hid hR; clear hR
        go_wp2
        go_roundw
        case rel =>
          refine ⟨k + 1, u2, by omega, by go_num, ?_, (hto.trans HO.out.2 hst).trans ht2 (hst.trans hst' hto.size), (hst.trans hst' hto.size).trans hs2 (by have := HO.out.2.size; have := hto.size; omega)⟩
          rw [HS.out, HR.out, ← List.append_assoc, HM.out]
          simpa using ho2
        case measure => simp [intOf]; omega
      · obtain ⟨ua, uc, hua⟩ := owns_slice hu.2
        subst hua
        go_wp2_with fail
        refine (size_any _ (by omega) (by omega) _).mono ?_
        rintro e w' ⟨rfl, rfl⟩
        rw [Int.toNat_natCast]
        generalize hn : vsz x = n at *
        have HN := Lib.hid hn; clear hn
        go_wp2_with fail
        have hp := put_any o n (x : Int) _ _ (by omega) (by omega) (by omega) (by omega) _ hu
        refine hp.mono ?_
        rintro e w1 ⟨rfl, u2, ho2, ht2, hs2⟩
        rw [Int.toNat_natCast] at ho2
        obtain ⟨g2, cap2, hu2⟩ := owns_form ho2.2 (by simp [be_length]; omega)
        subst hu2
        have hc2 := ho2.cell
        have hfg : w1.frozen? ⟨g2, m.length, none⟩ = false := ho2.2.frozenAt _
        have hcg : w1.cell? ⟨g2, m.length, none⟩ = some (.int .u8 (x / 256 ^ (n - 1) % 256 : Nat)) := by
          rw [ho2.2.cellAt m.length (by simp [be_length]; omega)]
          obtain ⟨n', rfl⟩ : ∃ n', n = n' + 1 := ⟨n - 1, by omega⟩
          have hy : x / 256 ^ n' % 256 < 256 := Nat.mod_lt _ (by omega)
          simp [bvals, be]
        have ht := top_or x n HN.out (by omega) (by omega)
        have HV := Lib.hid (vr_top x n HN.out)
        have ho2' : OutAt w1 o (.slice (some ⟨g2, 0, none⟩) (m ++ be x n).length cap2) (m ++ UInt8.ofNat (x / 256 ^ (n - 1) % 256) :: be x (n - 1)) := by rw [← be_top x n (by omega)]; exact ho2
        have hO3 := out_stored (d := UInt8.ofNat (hd n + x / 256 ^ (n - 1))) ho2' (by rw [be_top x n (by omega)])
        clear ho2'
        have e8 : (UInt8.ofNat (hd n + x / 256 ^ (n - 1))).toNat = hd n + x / 256 ^ (n - 1) := by rw [UInt8.toNat_ofNat', Nat.mod_eq_of_lt (by simpa using ht.2)]
        rw [e8, ← ht.1] at hO3
        have HO3 := Lib.hid hO3
        clear hO3 e8 ht
        generalize hye : x / 256 ^ (n - 1) % 256 = y at *
        have HYE := Lib.hid hye; clear hye
        have hL : (m ++ be x n).length = m.length + n := by simp [be_length]
        have hlt1 : (m.length : Int) < ((m ++ be x n).length : Int) := by rw [hL]; omega
        generalize hLe : (m ++ be x n).length = L at *
        have HL := Lib.hid hL; clear hL
        have HLe := Lib.hid hLe; clear hLe
        go_wp2
        go_region_with (go_at_call 74; refine (head_any n (by omega) (by omega) _).mono ?_; rintro e w' ⟨rfl, rfl⟩)
        all_goals go_wp2
        all_goals
          go_roundw
          case rel =>
            refine ⟨k + 1, _, by omega, by go_num, ?_, (hto.trans ht2 hst).trans HO3.out.2 (hst.trans hs2 hto.size), hst.trans hs2 hto.size⟩
            rw [HS.out, HV.out, ← List.append_assoc, HM.out]
            exact HO3.out.1
          case measure => simp [intOf]; omega
    · obtain rfl : k = xs.length := by omega
      rw [List.take_length] at hu
      go_wp2
      go_end0
      exact ⟨rfl, u, hu, hto, hst⟩

set_option maxHeartbeats 400000 in
set_option maxRecDepth 100000 in
theorem fixed_any (o n : Nat) (x : Int) (v : Value) (l : List UInt8) (h0 : 0 ≤ x) (h1 : x < 18446744073709551616) (hn1 : 1 ≤ n) (hn : n ≤ 8) (hl : l.length ≤ 70368744177664) (w : World) (hO : OutAt w o v l) :
    Calls Try.prog 42 #[.pointer (some ⟨o, 0, none⟩), .int .u64 x, .int .i64 n] w fun e w' => e = .returned (.int .i64 0) ∧
      ∃ v', OutAt w' o v' (l ++ be x.toNat n) ∧ OutTo w w' o v ∧ Stays w v v' := by
  have HP := Lib.hid (put_any o n x v l h0 h1 hn hl w hO)
  go_enter Try.func42, Try.ntmps42
  go_wp2_with fail
  refine HP.out.mono ?_
  rintro e w1 ⟨rfl, hq⟩
  have HQ := Lib.hid hq; clear hq
  go_wp2
  go_ret
  exact ⟨rfl, HQ.out⟩

end Go.Proofs.Ytmkcphelmgkipaa
