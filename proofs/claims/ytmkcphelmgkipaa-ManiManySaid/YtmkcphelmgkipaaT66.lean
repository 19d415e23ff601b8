import Derived.Test.YtmkcphelmgkipaaT63
import Derived.Test.YtmkcphelmgkipaaT65
import Derived.BigRegion
import Derived.Deep.CutRange
import Derived.Deep.CutBlock
set_option linter.unusedVariables false
set_option linter.unusedSimpArgs false
namespace Go.Proofs.Ytmkcphelmgkipaa
open Go.RowKit
attribute [local go_sem ↓] Go.wp_at_zero Go.wp_at_succ

/-! The law ManiMany, walked. -/

theorem tmod_bd (x : Int) (n : Nat) (hn : 0 < n) : -(n : Int) < x.tmod n ∧ x.tmod n < n := by
  have h1 := Int.tmod_lt_of_pos x (show (0 : Int) < n by omega)
  have h2 := Int.tmod_lt_of_pos (-x) (show (0 : Int) < n by omega)
  rw [Int.neg_tmod] at h2
  omega

theorem place_of (x : Int) (n : Nat) (hn : 0 < n) : ∃ i : Nat, (x.tmod n + n) % n = (i : Int) ∧ i < n := by
  have h0 := Int.emod_nonneg (x.tmod n + n) (show (n : Int) ≠ 0 by omega)
  have h1 := Int.emod_lt_of_pos (x.tmod n + n) (show (0 : Int) < n by omega)
  exact ⟨((x.tmod n + n) % n).toNat, by omega, by omega⟩

def put3 (w : World) (g o : Nat) (y : Snp) : World := ((w.setCell ⟨g, o, none⟩ (.string y.name)).setCell ⟨g, o + 1, none⟩ (.int .i64 y.seq)).setCell ⟨g, o + 2, none⟩ (.int .i64 y.upto)

def Three (w : World) (g o : Nat) (y : Snp) : Prop := w.cell? ⟨g, o, none⟩ = some (.string y.name) ∧ w.cell? ⟨g, o + 1, none⟩ = some (.int .i64 y.seq) ∧ w.cell? ⟨g, o + 2, none⟩ = some (.int .i64 y.upto)

theorem put3_far (w : World) (g o q : Nat) (y : Snp) (h0 : q ≠ o) (h1 : q ≠ o + 1) (h2 : q ≠ o + 2) : (put3 w g o y).cell? ⟨g, q, none⟩ = w.cell? ⟨g, q, none⟩ := by
  unfold put3
  rw [World.cell?_setCell_other _ _ _ _ (fun e => h2 (by injection e with _ e; exact e.symm)), World.cell?_setCell_other _ _ _ _ (fun e => h1 (by injection e with _ e; exact e.symm)), World.cell?_setCell_other _ _ _ _ (fun e => h0 (by injection e with _ e; exact e.symm))]

theorem put3_at {w : World} {g o : Nat} {x : Snp} (y : Snp) (h : Three w g o x) : Three (put3 w g o y) g o y := by
  obtain ⟨h0, h1, h2⟩ := h
  have ne : ∀ a b : Nat, a ≠ b → (⟨g, a, none⟩ : Addr) ≠ ⟨g, b, none⟩ := fun a b hab e => hab (by injection e)
  have k1 : (w.setCell ⟨g, o, none⟩ (.string y.name)).cell? ⟨g, o + 1, none⟩ = some (.int .i64 x.seq) := by rw [World.cell?_setCell_other _ _ _ _ (ne _ _ (by omega))]; exact h1
  have k2 : ((w.setCell ⟨g, o, none⟩ (.string y.name)).setCell ⟨g, o + 1, none⟩ (.int .i64 y.seq)).cell? ⟨g, o + 2, none⟩ = some (.int .i64 x.upto) := by
    rw [World.cell?_setCell_other _ _ _ _ (ne _ _ (by omega)), World.cell?_setCell_other _ _ _ _ (ne _ _ (by omega))]; exact h2
  unfold put3
  refine ⟨?_, ?_, World.cell?_setCell_same _ _ _ k2⟩
  · rw [World.cell?_setCell_other _ _ _ _ (ne _ _ (by omega)), World.cell?_setCell_other _ _ _ _ (ne _ _ (by omega))]
    exact World.cell?_setCell_same _ _ _ h0
  · rw [World.cell?_setCell_other _ _ _ _ (ne _ _ (by omega))]
    exact World.cell?_setCell_same _ _ _ k1

theorem put3_keeps (w : World) (g o : Nat) (y : Snp) : KeepsBut (fun k => k = g) w (put3 w g o y) :=
  ((KeepsBut.setCell (p := ⟨g, o, none⟩) w (X := fun k => k = g) rfl _).trans (KeepsBut.setCell (p := ⟨g, o + 1, none⟩) _ (X := fun k => k = g) rfl _)).trans (KeepsBut.setCell (p := ⟨g, o + 2, none⟩) _ (X := fun k => k = g) rfl _)

theorem drew_parts (X : World) : X.drew.heap = X.heap ∧ X.drew.os = X.os ∧ X.drew.tape = X.tape ∧ X.drew.output = X.output := ⟨rfl, rfl, rfl, rfl⟩
theorem put3_def (w : World) (g o : Nat) (y : Snp) : ((w.setCell ⟨g, o, none⟩ (.string y.name)).setCell ⟨g, o + 1, none⟩ (.int .i64 y.seq)).setCell ⟨g, o + 2, none⟩ (.int .i64 y.upto) = put3 w g o y := rfl
theorem put33_is (w : World) (g a b : Nat) (x y : Snp) (P : World → Prop) (hP : P (put3 (put3 w g a y) g b x)) : P ((((((w.setCell ⟨g, a, none⟩ (.string y.name)).setCell ⟨g, a + 1, none⟩ (.int .i64 y.seq)).setCell ⟨g, a + 2, none⟩ (.int .i64 y.upto)).setCell ⟨g, b, none⟩ (.string x.name)).setCell ⟨g, b + 1, none⟩ (.int .i64 x.seq)).setCell ⟨g, b + 2, none⟩ (.int .i64 x.upto)) := by
  rw [put3_def w, put3_def]; exact hP
theorem put33_parts (w : World) (g a b : Nat) (x y : Snp) : (put3 (put3 w g a y) g b x).drew.heap = (put3 (put3 w g a y) g b x).heap ∧ (put3 (put3 w g a y) g b x).drew.os = w.os ∧ (put3 (put3 w g a y) g b x).drew.tape = w.tape ∧ (put3 (put3 w g a y) g b x).drew.output = w.output := by
  have h := (put3_keeps w g a y).trans (put3_keeps _ g b x)
  obtain ⟨h0, h1, h2, h3⟩ := drew_parts (put3 (put3 w g a y) g b x)
  exact ⟨h0, h1.trans h.1, h2.trans h.2, h3.trans h.3⟩

theorem Snaps_block {w : World} {a : Option Addr} {n c b : Nat} {l : List Snp} (h : SnapsAt w (.slice a n c) l) (hb : w.heap.size ≤ b) : l = [] ∨ ∀ k, (Value.slice a n c).ownBlock = some k → k ≠ b := by
  cases l with
  | nil => exact Or.inl rfl
  | cons x t =>
    refine Or.inr fun k hk e => ?_
    obtain ⟨a', c', e', hc⟩ := h
    obtain ⟨b', off, ha, h0, _⟩ := hc 0 (by simp)
    have hlt := World.block_lt_of_cell? _ _ h0
    injection e' with e1
    subst e1
    subst ha
    have e2 : some b' = some k := hk
    injection e2 with e2
    simp only at hlt
    omega

theorem cells3z {w : World} {b : Nat} {c0 c1 c2 : Value} {t : TypeId} {f : Nat × Nat} (h : w.heap[b]? = some (.cells #[c0, c1, c2] t f)) :
    w.cell? ⟨b, 0 + 0 * 3, none⟩ = some c0 ∧ w.cell? ⟨b, 0 + 0 * 3 + 1, none⟩ = some c1 ∧ w.cell? ⟨b, 0 + 0 * 3 + 2, none⟩ = some c2 := by
  simp [World.cell?, h]

theorem one_snap (w : World) (x : Snp) : SnapsAt (w.alloc (.cells #[.string x.name, .int .i64 x.seq, .int .i64 x.upto] 56)).drew (.slice (some ⟨w.heap.size, 0, none⟩) 1 1) [x] := by
  refine ⟨_, 1, rfl, fun i hi => ?_⟩
  have e : i = 0 := by simp at hi; exact hi
  subst e
  exact ⟨w.heap.size, 0, rfl, cells3z (w := (w.alloc (.cells #[.string x.name, .int .i64 x.seq, .int .i64 x.upto] 56)).drew) (one_new w _ _).1⟩

theorem new_second (w : World) (c d : Array Value) (e f : TypeId) : ((w.alloc (.cells c e)).alloc (.cells d f)).heap[w.heap.size + 1]? = some (.cells d f (0, 0)) := by
  have h := (one_new (w.alloc (.cells c e)) d f).1
  rw [(one_new w c e).2.2] at h
  exact h
theorem new_first (w : World) (c d : Array Value) (e f : TypeId) : ((w.alloc (.cells c e)).alloc (.cells d f)).heap[w.heap.size]? = some (.cells c e (0, 0)) :=
  later (one_new (w.alloc (.cells c e)) d f).2.1 (one_new w c e).1
theorem one_snap2 (w : World) (x : Snp) (d : Array Value) (f : TypeId) : SnapsAt ((w.alloc (.cells #[.string x.name, .int .i64 x.seq, .int .i64 x.upto] 56)).alloc (.cells d f)).drew (.slice (some ⟨w.heap.size, 0, none⟩) 1 1) [x] := by
  refine ⟨_, 1, rfl, fun i hi => ?_⟩
  have e : i = 0 := by simp at hi; exact hi
  subst e
  exact ⟨w.heap.size, 0, rfl, cells3z (w := ((w.alloc (.cells #[.string x.name, .int .i64 x.seq, .int .i64 x.upto] 56)).alloc (.cells d f)).drew) (new_first w _ _ _ _)⟩
theorem one_snap3 (w : World) (x : Snp) (d : Array Value) (f : TypeId) : SnapsAt ((w.alloc (.cells d f)).alloc (.cells #[.string x.name, .int .i64 x.seq, .int .i64 x.upto] 56)).drew (.slice (some ⟨w.heap.size + 1, 0, none⟩) 1 1) [x] := by
  refine ⟨_, 1, rfl, fun i hi => ?_⟩
  have e : i = 0 := by simp at hi; exact hi
  subst e
  exact ⟨w.heap.size + 1, 0, rfl, cells3z (w := ((w.alloc (.cells d f)).alloc (.cells #[.string x.name, .int .i64 x.seq, .int .i64 x.upto] 56)).drew) (new_second w _ _ _ _)⟩

theorem seven_far {w : World} {b a k : Nat} {x : Value} (v0 v1 v2 v3 v4 v5 v6 : Value) (h : a ≠ b) (hc : w.cell? ⟨a, k, none⟩ = some x) :
    (((((((w.setCell ⟨b, 0, none⟩ v0).setCell ⟨b, 1, none⟩ v1).setCell ⟨b, 2, none⟩ v2).setCell ⟨b, 3, none⟩ v3).setCell ⟨b, 4, none⟩ v4).setCell ⟨b, 5, none⟩ v5).setCell ⟨b, 6, none⟩ v6).cell? ⟨a, k, none⟩ = some x := by
  have ne : ∀ i : Nat, (⟨b, i, none⟩ : Addr) ≠ ⟨a, k, none⟩ := fun i e => h (by injection e with e; exact e.symm)
  rw [World.cell?_setCell_other _ _ _ _ (ne 6), World.cell?_setCell_other _ _ _ _ (ne 5), World.cell?_setCell_other _ _ _ _ (ne 4), World.cell?_setCell_other _ _ _ _ (ne 3), World.cell?_setCell_other _ _ _ _ (ne 2), World.cell?_setCell_other _ _ _ _ (ne 1), World.cell?_setCell_other _ _ _ _ (ne 0)]
  exact hc

theorem Snaps_kept {w w' : World} {a : Option Addr} {n c b : Nat} {l : List Snp} (h : SnapsAt w (.slice a n c) l) (hk : KeepsBut (fun k => k = b) w w') (hb : l = [] ∨ ∀ k, (Value.slice a n c).ownBlock = some k → k ≠ b) : SnapsAt w' (.slice a n c) l := by
  rcases hb with rfl | hb
  · obtain ⟨a', c', e, hc⟩ := h
    exact ⟨a', c', e, fun i hi => absurd hi (by simp)⟩
  · exact Snaps_own h hk (fun e => hb b e rfl)

theorem getD_set_self {l : List Snp} {p : Nat} (hp : p < l.length) (y : Snp) : (l.set p y).getD p Snp.zero = y := by
  rw [List.getD_eq_getElem?_getD, List.getElem?_set_self hp]
  rfl
theorem getD_set_ne {l : List Snp} {p q : Nat} (h : p ≠ q) (y : Snp) : (l.set q y).getD p Snp.zero = l.getD p Snp.zero := by
  rw [List.getD_eq_getElem?_getD, List.getElem?_set_ne (fun e => h e.symm), ← List.getD_eq_getElem?_getD]

/-- Two of a row are exchanged. -/
theorem swapped {w : World} {g cap : Nat} {l : List Snp} {i j : Nat} (x y : Snp) (hi : i < l.length) (hj : j < l.length) (h : ∀ p, p < l.length → Three w g (p * 3) (l.getD p Snp.zero)) :
    SnapsAt (put3 (put3 w g (i * 3) y) g (j * 3) x) (.slice (some ⟨g, 0, none⟩) ((l.set i y).set j x).length cap) ((l.set i y).set j x) := by
  have far3 : ∀ (W : World) (o p : Nat) (y z : Snp), p ≠ o → Three W g (p * 3) z → Three (put3 W g (o * 3) y) g (p * 3) z := fun W o p y z hne h => by
    obtain ⟨h0, h1, h2⟩ := h
    exact ⟨(put3_far _ _ _ _ _ (by omega) (by omega) (by omega)).trans h0, (put3_far _ _ _ _ _ (by omega) (by omega) (by omega)).trans h1, (put3_far _ _ _ _ _ (by omega) (by omega) (by omega)).trans h2⟩
  have first : ∀ p, p < l.length → Three (put3 w g (i * 3) y) g (p * 3) ((l.set i y).getD p Snp.zero) := fun p hp => by
    by_cases e : p = i
    · subst e
      rw [getD_set_self hi]
      exact put3_at _ (h p hp)
    · rw [getD_set_ne e]
      exact far3 _ _ _ _ _ e (h p hp)
  have second : ∀ p, p < l.length → Three (put3 (put3 w g (i * 3) y) g (j * 3) x) g (p * 3) (((l.set i y).set j x).getD p Snp.zero) := fun p hp => by
    by_cases e : p = j
    · subst e
      rw [getD_set_self (by rw [List.length_set]; exact hp)]
      exact put3_at _ (first p hp)
    · rw [getD_set_ne e]
      exact far3 _ _ _ _ _ e (first p hp)
  refine ⟨_, cap, rfl, fun p hp => ⟨g, 0, rfl, ?_⟩⟩
  rw [List.length_set, List.length_set] at hp
  rw [Nat.zero_add]
  exact second p hp

theorem swap_perm (l : List Snp) (i j : Nat) (hi : i < l.length) (hj : j < l.length) : ((l.set i (l.getD j Snp.zero)).set j (l.getD i Snp.zero)).Perm l := by
  rw [List.getD_eq_getElem?_getD, List.getD_eq_getElem?_getD, List.getElem?_eq_getElem hi, List.getElem?_eq_getElem hj]
  exact List.set_set_perm hi hj

theorem own_three {w : World} {base g cap : Nat} {l : List Snp} (h : w.ownsRow base 56 3 (.slice (some ⟨g, 0, none⟩) l.length cap) l.length (rowVals l)) (p : Nat) (hp : p < l.length) : Three w g (p * 3) (l.getD p Snp.zero) := by
  have e0 := rowVals_at l p 0 hp (by omega)
  have e1 := rowVals_at l p 1 hp (by omega)
  have e2 := rowVals_at l p 2 hp (by omega)
  refine ⟨?_, ?_, ?_⟩
  · rw [h.cellAt _ (by omega)]; rw [Nat.add_zero] at e0; rw [e0]; rfl
  · rw [h.cellAt _ (by omega), e1]; rfl
  · rw [h.cellAt _ (by omega), e2]; rfl

theorem withM_chk {m a : Man} {l : List Snp} (h : withM m l = (a, 0)) : chk m = 0 := by
  unfold withM at h
  split at h
  · rename_i hc; exact absurd (congrArg Prod.snd h) hc
  · rename_i hc; simpa using hc

theorem good_fits {m : Man} (h : chk m = 0) : Fits m := by
  have hg := chk_good h
  refine ⟨?_, ?_, by have := hg.many; omega, fun x hx => by have := (good_keys h x hx).2.1; omega⟩
  · have := (vol_size hg.vol).2
    have e : m.vol.data.toList.length = m.vol.size := by simp
    omega
  · have := (may_size hg.may).1
    have e : m.bvol.data.toList.length = m.bvol.size := by simp
    omega

set_option maxHeartbeats 8000000 in
set_option maxRecDepth 100000 in
theorem many_any (m : Man) (sv : Value) (l : List Snp) (lv : Value) (i0 i1 : Int) (w : World) (hS : SnapsAt w sv m.snaps) (hL : SnapsAt w lv l) (hm : m.snaps.length ≤ 9223372036854775807) (hl : l.length ≤ 9223372036854775807) (h0 : In64 i0) (h1 : In64 i1) (hser : In64 m.serial) :
    Calls Try.prog 5 #[m.val sv, lv, .agg #[.int .i64 i0, .int .i64 i1]] w (Yes w) := by
  have HF1 : Hid (∀ W, SnapsAt W sv m.snaps → Calls Try.prog 15 #[m.val sv] W (FewManPost m W)) := fun W hW => few15_any m sv W hW hm
  have HF2 : Hid (∀ W, SnapsAt W lv l → Calls Try.prog 15 #[(Man.only l).val lv] W (FewManPost (Man.only l) W)) := fun W hW => few15_any (Man.only l) lv W hW hl
  have HLF : Hid (FewM (Man.only l) → ∀ x ∈ l, x.name.size ≤ 140737488351232) := fun h => (fits_of h).names
  have HWITH : Hid (FewM m → FewM (Man.only l) → ∀ W, SnapsAt W sv m.snaps → SnapsAt W lv l → Calls Try.prog 19 #[m.val sv, lv] W (ManPost (withM m l) W)) := fun h1 h2 W hW hW2 => with_any m sv l lv W (fits_of h1) hW hW2 (by have := h1.len; omega) (by have := h2.len; unfold Man.only at this; simp only at this; omega) (HLF.out h2)
  have HLAW : Hid (∀ a, withM m l = (a, 0) → m.serial ≤ 1099511600000 → l.length ≤ 10 → ∀ (k : List Snp), k.Perm l → ∃ S : Nat → List Snp, S 0 = m.snaps ∧ (∀ n, (S n).length ≤ 100) ∧ (∀ n (hn : n < k.length), withM (oneM m n (S n)) [k[n]] = (oneM m (n + 1) (S (n + 1)), 0)) ∧ a = oneM m 1 (S k.length)) := fun a h1 h2 h3 k hp => many_law h1 h2 h3 hp
  have HSER : Hid (∀ a, withM m l = (a, 0) → 0 ≤ m.serial) := fun a h => by
    unfold withM at h
    split at h
    · rename_i hc; exact absurd (congrArg Prod.snd h) hc
    · rename_i hc; exact (chk_good (show chk m = 0 by simpa using hc)).serial.1
  obtain ⟨WA, hWA⟩ : ∃ WA, WA = withM m l := ⟨_, rfl⟩
  rw [← hWA] at HWITH HLAW HSER
  obtain ⟨⟨pv, pk, ps, pz, pb, pq, pl⟩, pe⟩ := WA
  have HWA := Lib.hid hWA
  have HI0 := Lib.hid h0
  have HI1 := Lib.hid h1
  have HSR := Lib.hid hser
  clear hWA h0 h1 hser
  obtain ⟨v, key, serial, size, bv, bs, ms⟩ := m
  simp only [Man.val] at *
  have HSS := Lib.hid hS
  have HLS := Lib.hid hL
  obtain ⟨sa, scap, rfl, _⟩ := hS
  obtain ⟨la, lcap, rfl, hlc⟩ := hL
  have HLC := Lib.hid hlc
  clear hlc
  obtain ⟨w0, hw0⟩ : ∃ W, W = (w.alloc (.cells #[.string v, .int .u64 key, .int .i64 serial, .int .i64 size, .string bv, .int .i64 bs, .slice sa ms.length scap] 29)).alloc (.cells #[.int .i64 i0, .int .i64 i1] 46) := ⟨_, rfl⟩
  obtain ⟨hA0, hT0, hb0, hz0⟩ := two_new w #[.string v, .int .u64 key, .int .i64 serial, .int .i64 size, .string bv, .int .i64 bs, .slice sa ms.length scap] #[.int .i64 i0, .int .i64 i1] 29 46
  rw [← hw0] at hA0 hT0 hb0 hz0
  have HW0 := Lib.hid hw0
  obtain ⟨x0, x1, x2, x3, x4, x5, x6⟩ := cells7 hA0
  have HA0 := Lib.hid hA0
  have HT0 := Lib.hid hT0
  have HB0 := Lib.hid hb0
  have HS0 := Lib.hid (Snaps_later hb0 HSS.out)
  have HL0 := Lib.hid (Snaps_later hb0 HLS.out)
  clear hw0 hA0 hT0 hb0 hz0
  go_enter Try.func5, Try.ntmps5
  go_wp2_with fail
  rw [← HW0.out]
  refine (HF1.out w0 HS0.out).mono ?_
  rintro e w1 ⟨r1, rfl, hr1, hb1⟩
  have HA1 := Lib.hid (later hb1 HA0.out)
  have HT1 := Lib.hid (later hb1 HT0.out)
  have HB1 := Lib.hid (below_on HB0.out hb1)
  have HS1 := Lib.hid (Snaps_later hb1 HS0.out)
  have HL1 := Lib.hid (Snaps_later hb1 HL0.out)
  clear x0 x1 x2 x3 x4 x5 x6 hb1
  by_cases hg : r1 = true ∧ ¬ 10 < l.length ∧ 0 < l.length
  · obtain ⟨hr1t, h10, hl0⟩ := hg
    subst hr1t
    have HFM := Lib.hid (hr1 rfl)
    have hl00 : ((l.length : Int) == 0) = false := by rw [beq_eq_false_iff_ne]; omega
    have hl01 : ¬ l.length = 0 := by omega
    clear hr1
    go_wp2_with fail
    refine (HF2.out w1 HL1.out).mono ?_
    rintro e w2 ⟨r2, rfl, hr2, hb2⟩
    have HA2 := Lib.hid (later hb2 HA1.out)
    have HT2 := Lib.hid (later hb2 HT1.out)
    have HB2 := Lib.hid (below_on HB1.out hb2)
    have HS2 := Lib.hid (Snaps_later hb2 HS1.out)
    have HL2 := Lib.hid (Snaps_later hb2 HL1.out)
    clear hb2
    cases r2 with
    | false =>
      go_wp2_with fail
      refine (awake_any _).mono ?_
      rintro e w3 ⟨rfl, hb⟩
      go_wp2
      go_ret
      exact ⟨rfl, below_on HB2.out hb⟩
    | true =>
      have HFL := Lib.hid (hr2 rfl)
      clear hr2
      obtain ⟨x0, x1, x2, x3, x4, x5, x6⟩ := cells7 HA2.out
      go_wp2_with fail
      refine (HWITH.out HFM.out HFL.out w2 HS2.out HL2.out).mono ?_
      rintro e w3 ⟨s3, rfl, hS3, hb3⟩
      have HA3 := Lib.hid (later hb3 HA2.out)
      have HT3 := Lib.hid (later hb3 HT2.out)
      have HB3 := Lib.hid (below_on HB2.out hb3)
      have HS3 := Lib.hid (Snaps_later hb3 HS2.out)
      have HL3 := Lib.hid (Snaps_later hb3 HL2.out)
      have HPA3 := Lib.hid hS3
      obtain ⟨pa, pc, rfl, _⟩ := hS3
      simp only [Man.val]
      obtain ⟨w4, hw4⟩ : ∃ W, W = w3.alloc (.cells #[.string pv, .int .u64 pk, .int .i64 ps, .int .i64 pz, .string pb, .int .i64 pq, .slice pa pl.length pc] 29) := ⟨_, rfl⟩
      obtain ⟨hP4, hb4, hz4⟩ := one_new w3 #[.string pv, .int .u64 pk, .int .i64 ps, .int .i64 pz, .string pb, .int .i64 pq, .slice pa pl.length pc] 29
      rw [← hw4] at hP4 hb4 hz4
      obtain ⟨bP, hbP⟩ : ∃ B, B = w3.heap.size := ⟨_, rfl⟩
      rw [← hbP] at hP4 hz4
      have HW4 := Lib.hid hw4
      have HEP := Lib.hid hbP
      have HA4 := Lib.hid (later hb4 HA3.out)
      have HT4 := Lib.hid (later hb4 HT3.out)
      have HB4 := Lib.hid (below_on HB3.out hb4)
      have HS4 := Lib.hid (Snaps_later hb4 HS3.out)
      have HL4 := Lib.hid (Snaps_later hb4 HL3.out)
      have HPA4 := Lib.hid (Snaps_later hb4 HPA3.out)
      have HP4 := Lib.hid hP4
      clear hw4 hbP hP4 hb4 hb3 x0 x1 x2 x3 x4 x5 x6
      go_upto_region 4 with (fail)
      rw [← HW4.out, ← HEP.out]
      obtain ⟨x0, x1, x2, x3, x4, x5, x6⟩ := cells7 HA4.out
      have hsr := HSR.out
      unfold In64 at hsr
      by_cases hgo : pe = 0 ∧ serial ≤ 1099511600000
      · obtain ⟨rfl, hs11⟩ := hgo
        go_upto_region 6 with (fail)
        obtain ⟨lb, lo, hla⟩ : ∃ b off, la = some ⟨b, off, none⟩ := by
          obtain ⟨b, off, ha, _⟩ := HLC.out 0 hl0
          exact ⟨b, off, ha⟩
        subst hla
        have HN := Lib.hid (snaps_news HL4.out)
        have HNL := Lib.hid (rowVals_length l)
        have HN1 := Lib.hid (rowVals_one l)
        have hmx : 0 + l.length ≤ maxLen := by unfold maxLen; omega
        have HMX := Lib.hid hmx
        have HPL := Lib.hid (rowVals_at l)
        obtain ⟨ic, hi, hy0, hy1, hy2⟩ := info_parts Try.info56x
        clear hmx
        go_upto_region 7 with (at_builtin; refine wpList_append_lies _ rfl _ _ 27 rfl w4.heap.size 56 ic _ 3 32 Try.underlying27 hi hy0 hy1 hy2 rfl (by omega) (.slice none 0 0) 0 [] rfl (World.ownsRow_nil _ _ _ _) ⟨lb, lo, none⟩ l.length lcap (rowVals l) rfl HNL.out HN.out HN1.out (by omega) HMX.out (by omega) (by omega) w4.heap.size rfl ?_; intro gg cap' w5 hown5 hgrow hat hlt5; have HG5 := Lib.hid hgrow; have HO5 := Lib.hid hown5; clear hgrow hown5 hat hlt5)
        have hb5 : Below w4.heap.size w4 w5 := (Below.refl _ _).grown HG5.out (Nat.le_refl _) (fun k hk => by cases hk)
        have HA5 := Lib.hid (later hb5 HA4.out)
        have HT5 := Lib.hid (later hb5 HT4.out)
        have HB5 := Lib.hid (below_on HB4.out hb5)
        have HPA5 := Lib.hid (Snaps_later hb5 HPA4.out)
        have HP5 := Lib.hid (later hb5 HP4.out)
        have hz5 := hb5.size
        obtain ⟨z0, z1⟩ := cells2 HT5.out
        obtain ⟨i, hpi, hil⟩ := place_of i0 l.length hl0
        obtain ⟨j, hpj, hjl⟩ := place_of i1 l.length hl0
        obtain ⟨td0, td1⟩ := tmod_bd i0 l.length hl0
        obtain ⟨te0, te1⟩ := tmod_bd i1 l.length hl0
        have hn1 : (1 : Int) ≤ (l.length : Int) := by omega
        have hn2 : ¬ (l.length : Int) = 0 := by omega
        have HS11 := Lib.hid hs11
        have HB45 := Lib.hid hb5
        clear hb5 x0 x1 x2 x3 x4 x5 x6 hs11
        go_upto_region 9 with (fail)
        rw [hpi, hpj]
        have hO5 : w5.ownsRow w4.heap.size 56 3 (.slice (some ⟨gg, 0, none⟩) l.length cap') l.length (rowVals l) := by have h := HO5.out; rwa [Nat.zero_add, List.nil_append] at h
        have HT3' := Lib.hid (own_three hO5)
        obtain ⟨p0, p1, p2⟩ := own_three hO5 i hil
        obtain ⟨q0, q1, q2⟩ := own_three hO5 j hjl
        have fo := fun p => hO5.frozenAt p
        have hgg := hO5.lt gg rfl
        have hii0 : (0 : Int) ≤ (i : Int) := Int.natCast_nonneg _
        have hii1 : (i : Int) < (l.length : Int) := by omega
        have hjj0 : (0 : Int) ≤ (j : Int) := Int.natCast_nonneg _
        have hjj1 : (j : Int) < (l.length : Int) := by omega
        obtain ⟨x, hx⟩ : ∃ x, x = l.getD i Snp.zero := ⟨_, rfl⟩
        obtain ⟨y, hy⟩ : ∃ y, y = l.getD j Snp.zero := ⟨_, rfl⟩
        rw [← hx] at p0 p1 p2
        rw [← hy] at q0 q1 q2
        have HX := Lib.hid hx
        have HY := Lib.hid hy
        have HOW5 := Lib.hid hO5
        clear hx hy hO5 hpi hpj td0 td1 te0 te1
        go_cut [] from 16 (fun wc => wc.heap = (put3 (put3 w5 gg (i * 3) y) gg (j * 3) x).heap ∧ wc.os = w5.os ∧ wc.tape = w5.tape ∧ wc.output = w5.output)
        case rest =>
          obtain ⟨hh, hos, htp, hou⟩ := hcut
          clear p0 p1 p2 q0 q1 q2 fo z0 z1
          obtain ⟨kl, hkl⟩ : ∃ kl, kl = (l.set i y).set j x := ⟨_, rfl⟩
          have hkp : kl.Perm l := by rw [hkl, HX.out, HY.out]; exact swap_perm l i j hil hjl
          have hkn : kl.length = l.length := hkp.length_eq
          have hSk : SnapsAt wc (.slice (some ⟨gg, 0, none⟩) l.length cap') kl := by
            have h := Snaps_same (swapped (cap := cap') x y hil hjl HT3'.out) hh
            rw [← hkl, hkn] at h
            exact h
          have hK5 : KeepsBut (fun k => k = gg) w5 wc := by
            have h := (put3_keeps w5 gg (i * 3) y).trans (put3_keeps _ gg (j * 3) x)
            exact ⟨hos, htp, hou, by rw [hh]; exact h.size, fun k hk hx => by rw [hh]; exact h.block k hk hx⟩
          have hb4c : Below w4.heap.size w4 wc := HB45.out.trans (hK5.below (fun k e => by rw [e]; exact hgg.1) hz5)
          have HAc := Lib.hid (later hb4c HA4.out)
          have HPc := Lib.hid (later hb4c HP4.out)
          have HBc := Lib.hid (below_on HB4.out hb4c)
          have HSc := Lib.hid (Snaps_later hb4c HS4.out)
          have HPAc := Lib.hid (Snaps_later hb4c HPA4.out)
          have HKc := Lib.hid hSk
          obtain ⟨S, hS0, hSl, hstep, hall⟩ := HLAW.out _ rfl HS11.out (by omega) kl hkp
          have hs00 := HSER.out _ rfl
          have HKIN : Hid (∀ z ∈ kl, z.name.size ≤ 140737488351232) := fun z hz => HLF.out HFL.out z (hkp.mem_iff.1 hz)
          have HSTEP : Hid (∀ n (hn : n < kl.length) W so kv, SnapsAt W so (S n) → SnapsAt W kv [kl[n]] → Calls Try.prog 19 #[.agg #[.string v, .int .u64 key, .int .i64 (serial + n), .int .i64 size, .string bv, .int .i64 bs, so], kv] W (FreshPost (⟨v, key, serial + n + 1, size, bv, bs, S (n + 1)⟩, 0) W)) := fun n hn W so kv hso hkv => by
            have hst := hstep n hn
            have e : oneM ⟨v, key, serial, size, bv, bs, ms⟩ (n + 1) (S (n + 1)) = ⟨v, key, serial + n + 1, size, bv, bs, S (n + 1)⟩ := by
              unfold oneM
              simp only [Man.mk.injEq, true_and, and_true]
              omega
            have h := with_new (oneM ⟨v, key, serial, size, bv, bs, ms⟩ n (S n)) so [kl[n]] kv W (good_fits (withM_chk hst)) hso hkv (by have := hSl n; show (S n).length ≤ 1000; omega) (by simp) (fun z hz => by rw [List.mem_singleton] at hz; subst hz; exact HKIN.out _ (List.getElem_mem hn))
            rw [hst, e] at h
            exact h
          have hall' : pv = v ∧ pk = key ∧ ps = serial + 1 ∧ pz = size ∧ pb = bv ∧ pq = bs ∧ pl = S kl.length := by
            unfold oneM at hall
            simpa using hall
          obtain ⟨rfl, rfl, rfl, rfl, rfl, rfl, hpl⟩ := hall'
          have HPL' := Lib.hid hpl
          have HSL := Lib.hid hSl
          have HS0 := Lib.hid hS0
          have HKN := Lib.hid hkn
          clear hh hos htp hou hkl hkp hSk hK5 hb4c hstep hall hpl hSl hS0 hkn
          obtain ⟨x0, x1, x2, x3, x4, x5, x6⟩ := cells7 HAc.out
          obtain ⟨w7, hw7⟩ : ∃ W, W = wc.alloc (.cells #[.string pv, .int .u64 pk, .int .i64 serial, .int .i64 pz, .string pb, .int .i64 pq, .slice sa ms.length scap] 29) := ⟨_, rfl⟩
          obtain ⟨hO7, hb7, hz7⟩ := one_new wc #[.string pv, .int .u64 pk, .int .i64 serial, .int .i64 pz, .string pb, .int .i64 pq, .slice sa ms.length scap] 29
          obtain ⟨b1, hb1e⟩ : ∃ B, B = wc.heap.size := ⟨_, rfl⟩
          rw [← hw7, ← hb1e] at hO7 hz7
          rw [← hw7] at hb7
          have HW7 := Lib.hid hw7
          have HB1E := Lib.hid hb1e
          have HO7 := Lib.hid hO7
          have HB7 := Lib.hid hb7
          have HZ7 := Lib.hid hz7
          have HS7 := Lib.hid (Snaps_later hb7 HSc.out)
          have hOWN : ms = [] ∨ ∀ k, (Value.slice sa ms.length scap).ownBlock = some k → k ≠ b1 := Snaps_block HSc.out (by have h := HB1E.out; rw [h]; exact Nat.le_refl _)
          have HOWN := Lib.hid hOWN
          clear hw7 hb1e hO7 hb7 hOWN
          go_upto_region 11 with (fail)
          rw [← HW7.out, ← HB1E.out]
          go_wp2_with fail
          go_loopw [13] (fun t wr => ∃ (n : Nat) (so : Value), t = .int .i64 n ∧ n ≤ l.length ∧ Hid (wr.heap[b1]? = some (.cells #[.string pv, .int .u64 pk, .int .i64 (serial + n), .int .i64 pz, .string pb, .int .i64 pq, so] 29 (0, 0))) ∧ Hid (SnapsAt wr so (S n)) ∧ Hid (Below wc.heap.size wc wr) ∧ Hid (S n = [] ∨ ∀ k, so.ownBlock = some k → k ≠ b1) ∧ Hid (b1 < wr.heap.size)) (fun t _ => l.length - (intOf t).toNat)
          case atStart =>
            refine ⟨0, .slice sa ms.length scap, rfl, by omega, ?_, ?_, HB7.out, ?_, ?_⟩
            · have h := HO7.out
              rw [show serial = serial + ((0 : Nat) : Int) by omega] at h
              exact h
            · have h := HS7.out
              rw [← HS0.out] at h
              rw [← HS0.out]
              exact h
            · rw [HS0.out]
              exact HOWN.out
            · show b1 < w7.heap.size
              rw [HZ7.out]; omega
          case round =>
            obtain ⟨n, so, rfl, hnl, HOr, HSr, HBr, HWr, HZr⟩ := hrel
            have hSN := HSr.out
            obtain ⟨soa, soc, rfl, _⟩ := hSN
            by_cases hlt : n < l.length
            · have hnk : n < kl.length := by have := HKN.out; omega
              obtain ⟨_, _, hks, hkc⟩ := HKc.out
              obtain ⟨kb, ko, hka, kc0, kc1, kc2⟩ := hkc n hnk
              injection hks with hks1 hks2 hks3
              clear hks2 hks3
              rw [← hks1] at hka
              injection hka with hka
              injection hka with hkb hko
              subst hkb
              subst hko
              rw [Nat.zero_add] at kc0 kc1 kc2
              obtain ⟨z, hz⟩ : ∃ z, z = kl.getD n Snp.zero := ⟨_, rfl⟩
              have hzn : kl[n] = z := by rw [hz, List.getD_eq_getElem?_getD, List.getElem?_eq_getElem hnk]; rfl
              rw [← hz] at kc0 kc1 kc2
              have hst := HSTEP.out n hnk
              rw [hzn] at hst
              have HST := Lib.hid hst
              have kr0 := (HBr.out.cell (World.block_lt_of_cell? _ _ kc0)).trans kc0
              have kr1 := (HBr.out.cell (World.block_lt_of_cell? _ _ kc1)).trans kc1
              have kr2 := (HBr.out.cell (World.block_lt_of_cell? _ _ kc2)).trans kc2
              have hk0 : (0 : Int) ≤ (n : Int) := Int.natCast_nonneg _
              have hk1 : (n : Int) < (l.length : Int) := by omega
              clear kc0 kc1 kc2 hkc hks1 hz hzn hst hnk
              obtain ⟨r0, r1, r2, r3, r4, r5, r6⟩ := cells7 HOr.out
              go_upto_region 14 with (fail)
              have HKR := Lib.hid (And.intro kr0 (And.intro kr1 kr2))
              have hzb := HZr.out
              have hzg : gg < wr.heap.size := World.block_lt_of_cell? _ _ kr0
              have dbz : b1 ≠ wr.heap.size := by omega
              have dgz : gg ≠ wr.heap.size := by omega
              have dby : b1 ≠ wr.heap.size + 1 := by omega
              have dgy : gg ≠ wr.heap.size + 1 := by omega
              have hw1 : Below wr.heap.size wr (wr.alloc (.cells #[.string z.name, .int .i64 z.seq, .int .i64 z.upto] 56)).drew := ((one_new wr #[.string z.name, .int .i64 z.seq, .int .i64 z.upto] 56).2.1.drew)
              have hs1 : SnapsAt (wr.alloc (.cells #[.string z.name, .int .i64 z.seq, .int .i64 z.upto] 56)).drew (.slice soa (S n).length soc) (S n) := Snaps_later hw1 HSr.out
              have hk1' : SnapsAt (wr.alloc (.cells #[.string z.name, .int .i64 z.seq, .int .i64 z.upto] 56)).drew (.slice (some ⟨wr.heap.size, 0, none⟩) 1 1) [z] := one_snap wr z
              have hw2 : Below wr.heap.size wr ((wr.alloc (.cells #[.string z.name, .int .i64 z.seq, .int .i64 z.upto] 56)).alloc (.cells #[.string ⟨#[]⟩, .int .u64 0, .int .i64 0, .int .i64 0, .string ⟨#[]⟩, .int .i64 0, .slice none 0 0] 29)).drew := ((below_on (one_new wr #[.string z.name, .int .i64 z.seq, .int .i64 z.upto] 56).2.1 (one_new (wr.alloc (.cells #[.string z.name, .int .i64 z.seq, .int .i64 z.upto] 56)) #[.string ⟨#[]⟩, .int .u64 0, .int .i64 0, .int .i64 0, .string ⟨#[]⟩, .int .i64 0, .slice none 0 0] 29).2.1).drew)
              have hs2 : SnapsAt ((wr.alloc (.cells #[.string z.name, .int .i64 z.seq, .int .i64 z.upto] 56)).alloc (.cells #[.string ⟨#[]⟩, .int .u64 0, .int .i64 0, .int .i64 0, .string ⟨#[]⟩, .int .i64 0, .slice none 0 0] 29)).drew (.slice soa (S n).length soc) (S n) := Snaps_later hw2 HSr.out
              have hk2' : SnapsAt ((wr.alloc (.cells #[.string z.name, .int .i64 z.seq, .int .i64 z.upto] 56)).alloc (.cells #[.string ⟨#[]⟩, .int .u64 0, .int .i64 0, .int .i64 0, .string ⟨#[]⟩, .int .i64 0, .slice none 0 0] 29)).drew (.slice (some ⟨wr.heap.size, 0, none⟩) 1 1) [z] := one_snap2 wr z #[.string ⟨#[]⟩, .int .u64 0, .int .i64 0, .int .i64 0, .string ⟨#[]⟩, .int .i64 0, .slice none 0 0] 29
              have hn2 : ((wr.alloc (.cells #[.string z.name, .int .i64 z.seq, .int .i64 z.upto] 56)).alloc (.cells #[.string ⟨#[]⟩, .int .u64 0, .int .i64 0, .int .i64 0, .string ⟨#[]⟩, .int .i64 0, .slice none 0 0] 29)).drew.heap[wr.heap.size + 1]? = some (.cells #[.string ⟨#[]⟩, .int .u64 0, .int .i64 0, .int .i64 0, .string ⟨#[]⟩, .int .i64 0, .slice none 0 0] 29 (0, 0)) := new_second wr #[.string z.name, .int .i64 z.seq, .int .i64 z.upto] #[.string ⟨#[]⟩, .int .u64 0, .int .i64 0, .int .i64 0, .string ⟨#[]⟩, .int .i64 0, .slice none 0 0] 56 29
              have hw3 : Below wr.heap.size wr ((wr.alloc (.cells #[.string ⟨#[]⟩, .int .u64 0, .int .i64 0, .int .i64 0, .string ⟨#[]⟩, .int .i64 0, .slice none 0 0] 29)).alloc (.cells #[.string z.name, .int .i64 z.seq, .int .i64 z.upto] 56)).drew := ((below_on (one_new wr #[.string ⟨#[]⟩, .int .u64 0, .int .i64 0, .int .i64 0, .string ⟨#[]⟩, .int .i64 0, .slice none 0 0] 29).2.1 (one_new (wr.alloc (.cells #[.string ⟨#[]⟩, .int .u64 0, .int .i64 0, .int .i64 0, .string ⟨#[]⟩, .int .i64 0, .slice none 0 0] 29)) #[.string z.name, .int .i64 z.seq, .int .i64 z.upto] 56).2.1).drew)
              have hs3 : SnapsAt ((wr.alloc (.cells #[.string ⟨#[]⟩, .int .u64 0, .int .i64 0, .int .i64 0, .string ⟨#[]⟩, .int .i64 0, .slice none 0 0] 29)).alloc (.cells #[.string z.name, .int .i64 z.seq, .int .i64 z.upto] 56)).drew (.slice soa (S n).length soc) (S n) := Snaps_later hw3 HSr.out
              have hk3' : SnapsAt ((wr.alloc (.cells #[.string ⟨#[]⟩, .int .u64 0, .int .i64 0, .int .i64 0, .string ⟨#[]⟩, .int .i64 0, .slice none 0 0] 29)).alloc (.cells #[.string z.name, .int .i64 z.seq, .int .i64 z.upto] 56)).drew (.slice (some ⟨wr.heap.size + 1, 0, none⟩) 1 1) [z] := one_snap3 wr z #[.string ⟨#[]⟩, .int .u64 0, .int .i64 0, .int .i64 0, .string ⟨#[]⟩, .int .i64 0, .slice none 0 0] 29
              have hn3 : ((wr.alloc (.cells #[.string ⟨#[]⟩, .int .u64 0, .int .i64 0, .int .i64 0, .string ⟨#[]⟩, .int .i64 0, .slice none 0 0] 29)).alloc (.cells #[.string z.name, .int .i64 z.seq, .int .i64 z.upto] 56)).drew.heap[wr.heap.size]? = some (.cells #[.string ⟨#[]⟩, .int .u64 0, .int .i64 0, .int .i64 0, .string ⟨#[]⟩, .int .i64 0, .slice none 0 0] 29 (0, 0)) := new_first wr #[.string ⟨#[]⟩, .int .u64 0, .int .i64 0, .int .i64 0, .string ⟨#[]⟩, .int .i64 0, .slice none 0 0] #[.string z.name, .int .i64 z.seq, .int .i64 z.upto] 29 56
              go_cut [14, 15] from 95 to 105 (fun t c wq => ∃ (bN : Nat) (a8 : Option Addr) (c8 : Nat), t = .pointer (some ⟨bN, 0, none⟩) ∧ c = .int .i64 0 ∧ Hid (wq.heap[bN]? = some (.cells #[.string pv, .int .u64 pk, .int .i64 (serial + n + 1), .int .i64 pz, .string pb, .int .i64 pq, .slice a8 (S (n + 1)).length c8] 29 (0, 0))) ∧ Hid (SnapsAt wq (.slice a8 (S (n + 1)).length c8) (S (n + 1))) ∧ Hid (Below wr.heap.size wr wq) ∧ Hid (S (n + 1) = [] ∨ ∀ k, (Value.slice a8 (S (n + 1)).length c8).ownBlock = some k → wr.heap.size ≤ k))
              case rest =>
                obtain ⟨bN, a8, c8, rfl, rfl, HN9, HS9, HB9, HW9⟩ := hcut
                clear hw1 hw2 hw3 hs1 hs2 hs3 hk1' hk2' hk3' hn2 hn3 r0 r1 r2 r3 r4 r5 r6 kr0 kr1 kr2 dbz dgz dby dgy
                have HO9 := Lib.hid (later HB9.out HOr.out)
                obtain ⟨r0, r1, r2, r3, r4, r5, r6⟩ := cells7 HO9.out
                obtain ⟨y0, y1, y2, y3, y4, y5, y6⟩ := cells7 HN9.out
                have fo := frozen_of_heap HO9.out
                have hsn : IntKind.i64.wrap (serial + n + 1) = serial + n + 1 := IntWalk.i64_in _ (by have := HS11.out; omega)
                have hn1 : IntKind.i64.wrap ((n : Int) + 1) = (n : Int) + 1 := IntWalk.i64_in _ (by omega)
                have HE9 : Hid (serial + ((n + 1 : Nat) : Int) = serial + n + 1) := by show serial + ((n + 1 : Nat) : Int) = serial + n + 1; omega
                go_wp2
                go_roundw
                case rel =>
                  obtain ⟨g1, g2⟩ := seven HO9.out (.string pv) (.int .u64 pk) (.int .i64 (serial + n + 1)) (.int .i64 pz) (.string pb) (.int .i64 pq) (.slice a8 (S (n + 1)).length c8)
                  refine ⟨n + 1, (Value.slice a8 (S (n + 1)).length c8), rfl, by omega, ?_, Snaps_kept HS9.out g2 ?_, ?_, ?_, ?_⟩
                  · rw [HE9.out]; exact g1
                  · exact HW9.out.imp id (fun h k hk e => absurd (h k hk) (by omega))
                  · exact below_seven (HBr.out.trans (HB9.out.mono HBr.out.size)) b1 (Nat.le_of_eq HB1E.out.symm) _ _ _ _ _ _ _
                  · exact HW9.out.imp id (fun h k hk e => absurd (h k hk) (by omega))
                  · exact Nat.lt_of_lt_of_le hzb (Nat.le_trans HB9.out.size g2.size)
                case measure =>
                  show l.length - (n + 1) < l.length - n
                  omega
              case first =>
                go_region_held3 (fun w' => w'.cell? ⟨b1, 0, none⟩ = some (.string pv) ∧ w'.cell? ⟨b1, 1, none⟩ = some (.int .u64 pk) ∧ w'.cell? ⟨b1, 2, none⟩ = some (.int .i64 (serial + n)) ∧ w'.cell? ⟨b1, 3, none⟩ = some (.int .i64 pz) ∧ w'.cell? ⟨b1, 4, none⟩ = some (.string pb) ∧ w'.cell? ⟨b1, 5, none⟩ = some (.int .i64 pq) ∧ w'.cell? ⟨b1, 6, none⟩ = some (.slice soa (S n).length soc) ∧ w'.cell? ⟨gg, n * 3, none⟩ = some (.string z.name) ∧ w'.cell? ⟨gg, n * 3 + 1, none⟩ = some (.int .i64 z.seq) ∧ w'.cell? ⟨gg, n * 3 + 2, none⟩ = some (.int .i64 z.upto))
                  (first | (with_reducible assumption) | (with_reducible exact ⟨r0, r1, r2, r3, r4, r5, r6, kr0, kr1, kr2⟩) | (with_reducible exact ⟨seven_far _ _ _ _ _ _ _ dbz r0, seven_far _ _ _ _ _ _ _ dbz r1, seven_far _ _ _ _ _ _ _ dbz r2, seven_far _ _ _ _ _ _ _ dbz r3, seven_far _ _ _ _ _ _ _ dbz r4, seven_far _ _ _ _ _ _ _ dbz r5, seven_far _ _ _ _ _ _ _ dbz r6, seven_far _ _ _ _ _ _ _ dgz kr0, seven_far _ _ _ _ _ _ _ dgz kr1, seven_far _ _ _ _ _ _ _ dgz kr2⟩) | (with_reducible exact ⟨seven_far _ _ _ _ _ _ _ dby r0, seven_far _ _ _ _ _ _ _ dby r1, seven_far _ _ _ _ _ _ _ dby r2, seven_far _ _ _ _ _ _ _ dby r3, seven_far _ _ _ _ _ _ _ dby r4, seven_far _ _ _ _ _ _ _ dby r5, seven_far _ _ _ _ _ _ _ dby r6, seven_far _ _ _ _ _ _ _ dgy kr0, seven_far _ _ _ _ _ _ _ dgy kr1, seven_far _ _ _ _ _ _ _ dgy kr2⟩) | go_keep | (exact ⟨r0, r1, r2, r3, r4, r5, r6, kr0, kr1, kr2⟩))
                  ((first
                   | (go_at_call 19; refine (HST.out _ _ _ ?_ ?_).mono ?_; (with_reducible exact hs1); (with_reducible exact hk1'); rintro e w8 ⟨s8, rfl, hS8, hb8, hn8⟩
                      have hbw := hw1
                      have HS8 := Lib.hid hS8
                      obtain ⟨a8, c8, rfl, _⟩ := hS8
                      simp only [Man.val]
                      have hb8' := below_on hbw hb8
                      have hO8 := later hb8' HOr.out
                      obtain ⟨r0, r1, r2, r3, r4, r5, r6⟩ := cells7 hO8
                      obtain ⟨kr0', kr1', kr2'⟩ := HKR.out
                      have kr0 := (hb8'.cell (World.block_lt_of_cell? _ _ kr0')).trans kr0'
                      have kr1 := (hb8'.cell (World.block_lt_of_cell? _ _ kr1')).trans kr1'
                      have kr2 := (hb8'.cell (World.block_lt_of_cell? _ _ kr2')).trans kr2')
                   | (go_at_call 19; refine (HST.out _ _ _ ?_ ?_).mono ?_; (with_reducible exact hs2); (with_reducible exact hk2'); rintro e w8 ⟨s8, rfl, hS8, hb8, hn8⟩
                      have hbw := hw2
                      have HS8 := Lib.hid hS8
                      obtain ⟨a8, c8, rfl, _⟩ := hS8
                      simp only [Man.val]
                      have hb8' := below_on hbw hb8
                      have hO8 := later hb8' HOr.out
                      obtain ⟨r0, r1, r2, r3, r4, r5, r6⟩ := cells7 hO8
                      obtain ⟨kr0', kr1', kr2'⟩ := HKR.out
                      have kr0 := (hb8'.cell (World.block_lt_of_cell? _ _ kr0')).trans kr0'
                      have kr1 := (hb8'.cell (World.block_lt_of_cell? _ _ kr1')).trans kr1'
                      have kr2 := (hb8'.cell (World.block_lt_of_cell? _ _ kr2')).trans kr2'
                      have hN8 := later hb8 hn2
                      have fN8 := frozen_of_heap hN8
                      obtain ⟨y0, y1, y2, y3, y4, y5, y6⟩ := cells7 hN8)
                   | (go_at_call 19; refine (HST.out _ _ _ ?_ ?_).mono ?_; (with_reducible exact hs3); (with_reducible exact hk3'); rintro e w8 ⟨s8, rfl, hS8, hb8, hn8⟩
                      have hbw := hw3
                      have HS8 := Lib.hid hS8
                      obtain ⟨a8, c8, rfl, _⟩ := hS8
                      simp only [Man.val]
                      have hb8' := below_on hbw hb8
                      have hO8 := later hb8' HOr.out
                      obtain ⟨r0, r1, r2, r3, r4, r5, r6⟩ := cells7 hO8
                      obtain ⟨kr0', kr1', kr2'⟩ := HKR.out
                      have kr0 := (hb8'.cell (World.block_lt_of_cell? _ _ kr0')).trans kr0'
                      have kr1 := (hb8'.cell (World.block_lt_of_cell? _ _ kr1')).trans kr1'
                      have kr2 := (hb8'.cell (World.block_lt_of_cell? _ _ kr2')).trans kr2'
                      have hN8 := later hb8 hn3
                      have fN8 := frozen_of_heap hN8
                      obtain ⟨y0, y1, y2, y3, y4, y5, y6⟩ := cells7 hN8)))
                · go_wp2_with fail
                  go_meet
                  case rel =>
                    have hn8' : S (n + 1) = [] ∨ ∀ k, (Value.slice a8 (S (n + 1)).length c8).ownBlock = some k → (wr.alloc (.cells #[.string z.name, .int .i64 z.seq, .int .i64 z.upto] 56)).drew.heap.size ≤ k := hn8
                    obtain ⟨g0, g1, g2⟩ := one_new w8 #[.string pv, .int .u64 pk, .int .i64 (serial + n + 1), .int .i64 pz, .string pb, .int .i64 pq, .slice a8 (S (n + 1)).length c8] 29
                    exact ⟨w8.heap.size, a8, c8, rfl, rfl, g0, Snaps_later g1 HS8.out, below_on hb8' g1, hn8'.imp id (fun h k hk => Nat.le_trans hw1.size (h k hk))⟩
                · go_wp2_with fail
                  go_meet
                  case rel =>
                    have hn8' : S (n + 1) = [] ∨ ∀ k, (Value.slice a8 (S (n + 1)).length c8).ownBlock = some k → ((wr.alloc (.cells #[.string z.name, .int .i64 z.seq, .int .i64 z.upto] 56)).alloc (.cells #[.string ⟨#[]⟩, .int .u64 0, .int .i64 0, .int .i64 0, .string ⟨#[]⟩, .int .i64 0, .slice none 0 0] 29)).drew.heap.size ≤ k := hn8
                    have hlt2 := World.lt_of_heap hn2
                    obtain ⟨g1, g2⟩ := seven hN8 (.string pv) (.int .u64 pk) (.int .i64 (serial + n + 1)) (.int .i64 pz) (.string pb) (.int .i64 pq) (.slice a8 (S (n + 1)).length c8)
                    exact ⟨wr.heap.size + 1, a8, c8, rfl, rfl, g1, Snaps_kept HS8.out g2 (hn8'.imp id (fun h k hk e => absurd (h k hk) (by omega))), below_seven hb8' (wr.heap.size + 1) (by omega) _ _ _ _ _ _ _, hn8'.imp id (fun h k hk => Nat.le_trans hw2.size (h k hk))⟩
                · go_wp2_with fail
                  go_meet
                  case rel =>
                    have hn8' : S (n + 1) = [] ∨ ∀ k, (Value.slice a8 (S (n + 1)).length c8).ownBlock = some k → ((wr.alloc (.cells #[.string ⟨#[]⟩, .int .u64 0, .int .i64 0, .int .i64 0, .string ⟨#[]⟩, .int .i64 0, .slice none 0 0] 29)).alloc (.cells #[.string z.name, .int .i64 z.seq, .int .i64 z.upto] 56)).drew.heap.size ≤ k := hn8
                    have hlt3 := World.lt_of_heap hn3
                    obtain ⟨g1, g2⟩ := seven hN8 (.string pv) (.int .u64 pk) (.int .i64 (serial + n + 1)) (.int .i64 pz) (.string pb) (.int .i64 pq) (.slice a8 (S (n + 1)).length c8)
                    exact ⟨wr.heap.size, a8, c8, rfl, rfl, g1, Snaps_kept HS8.out g2 (hn8'.imp id (fun h k hk e => absurd (h k hk) (by omega))), below_seven hb8' wr.heap.size (by omega) _ _ _ _ _ _ _, hn8'.imp id (fun h k hk => Nat.le_trans hw3.size (h k hk))⟩
            · have en : n = kl.length := by have := HKN.out; omega
              subst en
              obtain ⟨q0, q1, q2, q3, q4, q5, q6⟩ := cells7 (later HBr.out HPc.out)
              obtain ⟨r0, r1, r2, r3, r4, r5, r6⟩ := cells7 HOr.out
              have fo := frozen_of_heap HOr.out
              have hPb := World.lt_of_heap HPc.out
              have dPb : bP ≠ b1 := by have := HB1E.out; omega
              have dbP : b1 ≠ bP := fun e => dPb e.symm
              have hbw : Below wc.heap.size wc (wr.setCell ⟨b1, 2, none⟩ (.int .i64 (serial + 1))) := HBr.out.setCell (Nat.le_of_eq HB1E.out.symm) _
              have HBW := Lib.hid hbw
              have HME : Hid (SnapsAt (wr.setCell ⟨b1, 2, none⟩ (.int .i64 (serial + 1))) (.slice soa (S kl.length).length soc) (S kl.length)) := Snaps_kept HSr.out (KeepsBut.setCell (p := ⟨b1, 2, none⟩) wr (X := fun k => k = b1) rfl _) HWr.out
              have HPE : Hid (SnapsAt (wr.setCell ⟨b1, 2, none⟩ (.int .i64 (serial + 1))) (.slice pa pl.length pc) pl) := Snaps_later hbw HPAc.out
              have HSAME : Hid (∀ W, SnapsAt W (.slice soa (S kl.length).length soc) (S kl.length) → SnapsAt W (.slice pa pl.length pc) pl → Calls Try.prog 18 #[.agg #[.string pv, .int .u64 pk, .int .i64 (serial + 1), .int .i64 pz, .string pb, .int .i64 pq, .slice soa (S kl.length).length soc], .agg #[.string pv, .int .u64 pk, .int .i64 (serial + 1), .int .i64 pz, .string pb, .int .i64 pq, .slice pa pl.length pc]] W (fun e w' => e = .returned (.bool true) ∧ Below W.heap.size W w')) := fun W h h' => by
                rw [HPL'.out] at h'
                rw [HPL'.out]
                exact msame_any ⟨pv, pk, serial + 1, pz, pb, pq, S kl.length⟩ _ _ W h h' (by have := HSL.out kl.length; show (S kl.length).length ≤ 1000000; omega)
              clear hbw hPb
              go_wp2_with fail
              refine (HSAME.out _ HME.out HPE.out).mono ?_
              rintro e wy ⟨rfl, hby⟩
              go_wp2_with fail
              refine (awake_any _).mono ?_
              rintro e wz ⟨rfl, hbz⟩
              go_wp2
              go_ret
              exact ⟨rfl, below_on (below_on (below_on HBc.out HBW.out) hby) hbz⟩
        case first =>
          by_cases hij : i = j
          · subst hij
            have hyx : y = x := by rw [HX.out, HY.out]
            subst hyx
            go_region
            go_wp2_with fail
            go_meet
            case rel =>
              refine put33_is _ _ _ _ _ _ (fun W => W.drew.heap = (put3 (put3 w5 gg _ _) gg _ _).heap ∧ W.drew.os = w5.os ∧ W.drew.tape = w5.tape ∧ W.drew.output = w5.output) (put33_parts _ _ _ _ _ _)
          · go_region
            go_wp2_with fail
            go_meet
            case rel => refine put33_is _ _ _ _ _ _ (fun W => W.drew.heap = (put3 (put3 w5 gg _ _) gg _ _).heap ∧ W.drew.os = w5.os ∧ W.drew.tape = w5.tape ∧ W.drew.output = w5.output) (put33_parts _ _ _ _ _ _)
      · by_cases hpe : pe = 0
        · subst hpe
          have hs12 : 1099511600000 < serial := by omega
          go_wp2_with fail
          refine (awake_any _).mono ?_
          rintro e wz ⟨rfl, hb⟩
          go_wp2
          go_ret
          exact ⟨rfl, below_on HB4.out hb⟩
        · have hpf : (pe != 0) = true := by simp [hpe]
          go_wp2_with fail
          refine (awake_any _).mono ?_
          rintro e wz ⟨rfl, hb⟩
          go_wp2
          go_ret
          exact ⟨rfl, below_on HB4.out hb⟩
  · cases r1 with
    | false =>
      go_wp2_with fail
      refine (awake_any _).mono ?_
      rintro e w2 ⟨rfl, hb⟩
      go_wp2
      go_ret
      exact ⟨rfl, below_on HB1.out hb⟩
    | true =>
      by_cases h10 : 10 < l.length
      · go_wp2_with fail
        refine (awake_any _).mono ?_
        rintro e w2 ⟨rfl, hb⟩
        go_wp2
        go_ret
        exact ⟨rfl, below_on HB1.out hb⟩
      · have hl0 : l.length = 0 := by
          have : ¬ 0 < l.length := fun h => hg ⟨rfl, h10, h⟩
          omega
        clear hg
        go_wp2_with fail
        refine (awake_any _).mono ?_
        rintro e w2 ⟨rfl, hb⟩
        go_wp2
        go_ret
        exact ⟨rfl, below_on HB1.out hb⟩
end Go.Proofs.Ytmkcphelmgkipaa
