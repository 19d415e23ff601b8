import Derived.Test.YtmkcphelmgkipaaT38
set_option linter.unusedVariables false
set_option linter.unusedSimpArgs false
namespace Go.Proofs.Ytmkcphelmgkipaa
open Go.RowKit

/-! What was written is read again. -/

theorem opened_sealed (l : List UInt8) : opened (sealed l) = (l, 0) := by
  have hl : (sealed l).length = l.length + 4 := by unfold sealed; rw [List.length_append]; rfl
  have ht : (sealed l).take ((sealed l).length - 4) = l := by
    rw [hl, Nat.add_sub_cancel]
    unfold sealed
    exact List.take_left
  rw [opened_good _ (by omega) (by rw [ht]), ht]

theorem rint_vr {m x : Nat} (hx : x ≤ m) (h64 : x < 18446744073709551616) (r : List UInt8) : rint m (vr x ++ r) = some (x, (vr x).length) := by
  unfold rint
  rw [rvar_vr x h64 r]
  exact if_pos hx

theorem rtext_txt {m : Nat} {l : List UInt8} (hl : l.length ≤ m) (h64 : l.length < 18446744073709551616) (r : List UInt8) : rtext m (txt l ++ r) = some (l, (txt l).length) := by
  unfold rtext txt
  rw [List.append_assoc, rint_vr hl h64]
  have h : l.length ≤ (vr l.length ++ (l ++ r)).length - (vr l.length).length := by rw [List.length_append, List.length_append]; omega
  simp only [if_pos h]
  rw [List.drop_left, List.take_left, List.length_append]

theorem rfixed_be (x : Nat) (hx : x < 18446744073709551616) (r : List UInt8) : rfixed 8 (be x 8 ++ r) = some (x, 8) := by
  unfold rfixed
  have hl := be_length x 8
  rw [if_neg (by rw [List.length_append, hl]; omega)]
  have ht : (be x 8 ++ r).take 8 = be x 8 := by
    have := List.take_left (l₁ := be x 8) (l₂ := r)
    rwa [hl] at this
  rw [ht, beFrom_be, Nat.mod_eq_of_lt (by simpa using hx)]

/-- A reading that goes on behind what it reads. -/
theorem rd_go {α : Type} {z : α} {f : List UInt8 → Option (α × Nat)} {T e r : List UInt8} {a : Nat} {v : α} (hd : T.drop a = e ++ r) (hf : f (e ++ r) = some (v, e.length)) :
    rd z f T (some a) = (v, some (a + e.length)) ∧ T.drop (a + e.length) = r := by
  constructor
  · exact rd_some (by rw [hd]; exact hf)
  · rw [← List.drop_drop, hd, List.drop_left]

theorem snapsBytes_cons (x : Snp) (l : List Snp) : snapsBytes (x :: l) = snapBytes x ++ snapsBytes l := rfl
theorem snapsBytes_append (a b : List Snp) : snapsBytes (a ++ b) = snapsBytes a ++ snapsBytes b := by simp [snapsBytes]

def SnapFits (x : Snp) : Prop := x.name.size ≤ 64 ∧ (0 ≤ x.seq ∧ x.seq < 1099511627776) ∧ (0 ≤ x.upto ∧ x.upto < 1099511627776)

theorem rsnap_go {T r : List UInt8} {a : Nat} {x : Snp} (hx : SnapFits x) (hd : T.drop a = snapBytes x ++ r) :
    rsnap T (some a) = (x, some (a + (snapBytes x).length)) ∧ T.drop (a + (snapBytes x).length) = r := by
  obtain ⟨h1, h2, h3⟩ := hx
  unfold snapBytes at hd ⊢
  rw [List.append_assoc, List.append_assoc] at hd
  have hn : x.name.data.toList.length = x.name.size := by simp
  obtain ⟨e1, d1⟩ := rd_go (z := []) hd (rtext_txt (m := 64) (by omega) (by omega) _)
  obtain ⟨e2, d2⟩ := rd_go (z := 0) d1 (rint_vr (m := 1099511627776) (by omega) (by omega) _)
  obtain ⟨e3, d3⟩ := rd_go (z := 0) d2 (rint_vr (m := 1099511627776) (by omega) (by omega) _)
  constructor
  · unfold rsnap
    rw [e1, e2, e3]
    simp only [str_of]
    rw [List.length_append, List.length_append]
    obtain ⟨n, s, u⟩ := x
    simp only [Prod.mk.injEq, Snp.mk.injEq, true_and]
    refine ⟨⟨by simp only at h2; omega, by simp only at h3; omega⟩, ?_⟩
    simp only [Nat.add_assoc]
  · rw [List.length_append, List.length_append, ← Nat.add_assoc, ← Nat.add_assoc]
    exact d3

theorem rsnaps_go {T r : List UInt8} {a : Nat} (l : List Snp) (hl : ∀ x ∈ l, SnapFits x) (hd : T.drop a = snapsBytes l ++ r) (k : Nat) (hk : k ≤ l.length) :
    rsnaps T k (some a) = (l.take k, some (a + (snapsBytes (l.take k)).length)) ∧ T.drop (a + (snapsBytes (l.take k)).length) = snapsBytes (l.drop k) ++ r := by
  induction k with
  | zero => exact ⟨rfl, by simpa [snapsBytes] using hd⟩
  | succ k ih =>
    obtain ⟨e1, d1⟩ := ih (by omega)
    have hdk : l.drop k = l[k] :: l.drop (k + 1) := List.drop_eq_getElem_cons (by omega)
    rw [hdk, snapsBytes_cons, List.append_assoc] at d1
    obtain ⟨e2, d2⟩ := rsnap_go (hl _ (List.getElem_mem (by omega))) d1
    have htk : l.take (k + 1) = l.take k ++ [l[k]] := by rw [List.take_add_one, List.getElem?_eq_getElem (by omega)]; rfl
    have hb : snapsBytes [l[k]] = snapBytes l[k] := by simp [snapsBytes]
    constructor
    · show (_, _) = (_, _)
      rw [e1, e2, htk, snapsBytes_append, List.length_append, hb, Nat.add_assoc]
    · rw [htk, snapsBytes_append, List.length_append, hb, ← Nat.add_assoc]
      exact d2

theorem good_snaps {m : Man} (h : Good m) : ∀ x ∈ m.snaps, SnapFits x := by
  intro x hx
  obtain ⟨i, hi, rfl⟩ := List.mem_iff_getElem.mp hx
  have := h.at i hi
  rw [List.getD_eq_getElem?_getD, List.getElem?_eq_getElem hi] at this
  exact this

theorem dman_enc (m : Man) (hc : chk m = 0) (hk : 0 ≤ m.key ∧ m.key < 18446744073709551616) : dman (enc m) = (m, 0) := by
  have hg := chk_good hc
  have hv := (vol_size hg.vol).2
  have hb := may_size hg.may
  have hbl : m.bvol.data.toList.length = m.bvol.size := by simp
  obtain ⟨T, hT⟩ : ∃ T, T = txt m.vol.data.toList ++ (be m.key.toNat 8 ++ (vr m.serial.toNat ++ (vr m.size.toNat ++ (txt m.bvol.data.toList ++ (vr m.bseq.toNat ++ (vr m.snaps.length ++ (snapsBytes m.snaps ++ []))))))) := ⟨_, rfl⟩
  have hA : front m ++ snapsBytes m.snaps = [77, 65, 78, 50] ++ T := by rw [hT]; unfold front; simp
  have d0 : T.drop 0 = txt m.vol.data.toList ++ (be m.key.toNat 8 ++ (vr m.serial.toNat ++ (vr m.size.toNat ++ (txt m.bvol.data.toList ++ (vr m.bseq.toNat ++ (vr m.snaps.length ++ (snapsBytes m.snaps ++ []))))))) := hT
  have hs := hg.serial
  have hz := hg.size
  have hm := hg.many
  obtain ⟨e1, d1⟩ := rd_go (z := []) d0 (rtext_txt (m := 64) (by omega) (by omega) _)
  obtain ⟨e2, d2⟩ := rd_go (z := 0) d1 (by have := rfixed_be m.key.toNat (by omega); rw [be_length]; exact this _)
  obtain ⟨e3, d3⟩ := rd_go (z := 0) d2 (rint_vr (m := 1099511627776) (by omega) (by omega) _)
  obtain ⟨e4, d4⟩ := rd_go (z := 0) d3 (rint_vr (m := 65536) (by omega) (by omega) _)
  obtain ⟨e5, d5⟩ := rd_go (z := []) d4 (rtext_txt (m := 64) (by omega) (by omega) _)
  obtain ⟨e6, d6⟩ := rd_go (z := 0) d5 (rint_vr (m := 1099511627776) (by omega) (by omega) _)
  obtain ⟨e7, d7⟩ := rd_go (z := 0) d6 (rint_vr (m := 100) (by omega) (by omega) _)
  obtain ⟨e8, d8⟩ := rsnaps_go m.snaps (good_snaps hg) d7 m.snaps.length (Nat.le_refl _)
  rw [List.take_length] at e8 d8
  rw [List.drop_length] at d8
  have g1 : p1 T = _ := e1
  have g2 : p2 T = rd 0 (rfixed 8) T (p1 T).2 := rfl
  rw [g1] at g2
  simp only at g2
  rw [e2] at g2
  have g3 : p3 T = rd 0 (rint 1099511627776) T (p2 T).2 := rfl
  rw [g2] at g3
  simp only at g3
  rw [e3] at g3
  have g4 : p4 T = rd 0 (rint 65536) T (p3 T).2 := rfl
  rw [g3] at g4
  simp only at g4
  rw [e4] at g4
  have g5 : p5 T = rd [] (rtext 64) T (p4 T).2 := rfl
  rw [g4] at g5
  simp only at g5
  rw [e5] at g5
  have g6 : p6 T = rd 0 (rint 1099511627776) T (p5 T).2 := rfl
  rw [g5] at g6
  simp only at g6
  rw [e6] at g6
  have g7 : p7 T = rd 0 (rint 100) T (p6 T).2 := rfl
  rw [g6] at g7
  simp only at g7
  rw [e7] at g7
  have hpm : pman T = m := by
    unfold pman
    rw [g1, g2, g3, g4, g5, g6, g7]
    simp only [str_of, e8]
    obtain ⟨v, k, s, z, b, q, l⟩ := m
    simp only [Man.mk.injEq, true_and, and_true]
    simp only at hk hs hz hb
    omega
  have hpe : pend T = some T.length := by
    unfold pend
    rw [g7]
    simp only [e8]
    have h0 := congrArg List.length d8
    have hlen := congrArg List.length hT
    congr 1
    rw [hlen]
    simp only [List.length_append, be_length, List.length_nil]
    omega
  unfold dman enc
  rw [opened_sealed, hA]
  have hpfx : Lib.hasPrefix ([77, 65, 78, 50] ++ T) [77, 65, 78, 50] = true := by unfold Lib.hasPrefix; simp [List.isPrefixOf]
  have hdrop : ([77, 65, 78, 50] ++ T : List UInt8).drop 4 = T := rfl
  simp only [ne_eq, not_true_eq_false, if_false, hpfx, hdrop, Bool.true_eq_false]
  rw [if_pos ⟨hpe, by rw [hpm]; exact hc⟩, hpm]
end Go.Proofs.Ytmkcphelmgkipaa
