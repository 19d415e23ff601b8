import Derived.Test.YtmkcphelmgkipaaT28
set_option linter.unusedVariables false
set_option linter.unusedSimpArgs false
namespace Go.Proofs.Ytmkcphelmgkipaa
open Go.RowKit
attribute [local go_sem ↓] Go.wp_at_zero Go.wp_at_succ

/-- The document's reader in block o: what is left, and whether all was well. -/
def RIn (w : World) (o : Nat) (s : ByteArray) (ok : Bool) : Prop := w.heap[o]? = some (.cells #[.string s, .bool ok] 76 (0, 0))
def RSt (w : World) (o : Nat) (T : List UInt8) : Option Nat → Prop
  | none => ∃ s : ByteArray, s.size ≤ 140737488351232 ∧ RIn w o s false
  | some a => a ≤ T.length ∧ RIn w o (str (T.drop a)) true

theorem RIn.c0 {w : World} {o : Nat} {s : ByteArray} {ok : Bool} (h : RIn w o s ok) : w.cell? ⟨o, 0, none⟩ = some (.string s) := cell_of_heap h 0
theorem RIn.c1 {w : World} {o : Nat} {s : ByteArray} {ok : Bool} (h : RIn w o s ok) : w.cell? ⟨o, 1, none⟩ = some (.bool ok) := cell_of_heap h 1
theorem RIn.f {w : World} {o : Nat} {s : ByteArray} {ok : Bool} (h : RIn w o s ok) (i : Nat) : w.frozen? ⟨o, i, none⟩ = false := frozen_of_heap h i
theorem RIn.drew {w w' : World} {o : Nat} {s : ByteArray} {ok : Bool} (h : RIn w o s ok) (hd : Drew w w') : RIn w' o s ok := by
  obtain ⟨m, rfl⟩ := hd; exact h
theorem RIn.off {w : World} {o : Nat} {s : ByteArray} {ok : Bool} (h : RIn w o s ok) : RIn (w.setCell ⟨o, 1, none⟩ (.bool false)) o s false := heap_setCell_same w o 1 _ 76 _ h
theorem RIn.move {w : World} {o : Nat} {s : ByteArray} {ok : Bool} (h : RIn w o s ok) (s' : ByteArray) : RIn (w.setCell ⟨o, 0, none⟩ (.string s')) o s' ok := heap_setCell_same w o 0 _ 76 _ h

theorem rvar_le {r : List UInt8} {x n : Nat} (h : rvar r = some (x, n)) : n ≤ r.length := (rvar_bd h).2.2

def RNumPost (o : Nat) (T : List UInt8) (st : Option Nat) (w : World) (e : Ending) (w' : World) : Prop :=
  KeepsBut (fun k => k = o) w w' ∧ e = .returned (.int .i64 ((rd 0 (rint 1125899906842624) T st).1 : Nat)) ∧ RSt w' o T (rd 0 (rint 1125899906842624) T st).2

set_option maxHeartbeats 1000000 in
set_option maxRecDepth 100000 in
theorem rnum_dead (o : Nat) (s : ByteArray) (w : World) (h : RIn w o s false) (hs : s.size ≤ 140737488351232) :
    Calls Try.prog 37 #[.pointer (some ⟨o, 0, none⟩)] w fun e w' => KeepsBut (fun k => k = o) w w' ∧ e = .returned (.int .i64 0) ∧ RIn w' o s false := by
  have HF := Lib.hid (few_any s w hs)
  have H := Lib.hid h
  have c0 := h.c0
  clear h
  go_enter Try.func37, Try.ntmps37
  go_wp2_with fail
  refine HF.out.mono ?_
  rintro e w1 ⟨hd, x, n, c, rfl, _⟩
  have H1 := Lib.hid (H.out.drew hd)
  have HK := Lib.hid (hd.keeps (fun k => k = o))
  have c1 := H1.out.c1
  have c0 := H1.out.c0
  have f := H1.out.f
  clear hd HF
  go_wp2
  go_ret
  exact ⟨HK.out.trans (ks _ _ _ _), rfl, H1.out.off⟩

set_option maxHeartbeats 1000000 in
set_option maxRecDepth 100000 in
theorem rnum_bad (o : Nat) (s : ByteArray) (w : World) (h : RIn w o s true) (hs : s.size ≤ 140737488351232) (hr : rint 1125899906842624 s.data.toList = none) :
    Calls Try.prog 37 #[.pointer (some ⟨o, 0, none⟩)] w fun e w' => KeepsBut (fun k => k = o) w w' ∧ e = .returned (.int .i64 0) ∧ RIn w' o s false := by
  have HF := Lib.hid (few_any s w hs)
  have H := Lib.hid h
  have c0 := h.c0
  clear h
  have HR := Lib.hid hr
  clear hr
  go_enter Try.func37, Try.ntmps37
  go_wp2_with fail
  refine HF.out.mono ?_
  rintro e w1 ⟨hd, x, n, c, rfl, hxn⟩
  have H1 := Lib.hid (H.out.drew hd)
  have HK := Lib.hid (hd.keeps (fun k => k = o))
  have c1 := H1.out.c1
  have c0 := H1.out.c0
  have f := H1.out.f
  clear hd HF
  rcases hxn with ⟨hv, rfl⟩ | ⟨hv, rfl, rfl, hc⟩
  · have hx := (rvar_bd hv).1
    have hgt : 1125899906842624 < x := by
      have := HR.out
      unfold rint at this
      rw [hv] at this
      simp only at this
      split at this
      · cases this
      · omega
    clear hv
    go_wp2
    go_ret
    exact ⟨HK.out.trans (ks _ _ _ _), rfl, H1.out.off⟩
  · have hcn : (c != 0) = true := by rw [bne_iff_ne]; exact hc
    clear hc hv
    go_wp2
    go_ret
    exact ⟨HK.out.trans (ks _ _ _ _), rfl, H1.out.off⟩

set_option maxHeartbeats 1000000 in
set_option maxRecDepth 100000 in
theorem rnum_good (o : Nat) (s : ByteArray) (w : World) (h : RIn w o s true) (hs : s.size ≤ 140737488351232) {x n : Nat} (hr : rint 1125899906842624 s.data.toList = some (x, n)) :
    Calls Try.prog 37 #[.pointer (some ⟨o, 0, none⟩)] w fun e w' => KeepsBut (fun k => k = o) w w' ∧ e = .returned (.int .i64 x) ∧ RIn w' o (str (s.data.toList.drop n)) true := by
  have HF := Lib.hid (few_any s w hs)
  have H := Lib.hid h
  have c0 := h.c0
  clear h
  have hlen : s.data.toList.length = s.size := by simp
  have HR := Lib.hid hr
  clear hr
  go_enter Try.func37, Try.ntmps37
  go_wp2_with fail
  refine HF.out.mono ?_
  rintro e w1 ⟨hd, x', n', c, rfl, hxn⟩
  have H1 := Lib.hid (H.out.drew hd)
  have HK := Lib.hid (hd.keeps (fun k => k = o))
  have c1 := H1.out.c1
  have c0 := H1.out.c0
  have f := H1.out.f
  clear hd HF
  rcases hxn with ⟨hv, rfl⟩ | ⟨hv, _, _, hc⟩
  · have hr := HR.out
    unfold rint at hr
    rw [hv] at hr
    simp only at hr
    split at hr
    · cases hr
      have hle : x ≤ 1125899906842624 := by assumption
      have hn := rvar_le hv
      rw [hlen] at hn
      have hex : s.extract n s.size = str (s.data.toList.drop n) := ext_end s n
      have HEX := Lib.hid hex
      clear hv hlen hex
      go_wp2
      go_ret
      rw [← HEX.out]
      exact ⟨HK.out.trans (ks _ _ _ _), rfl, H1.out.move _⟩
    · cases hr
  · exfalso
    have hr := HR.out
    unfold rint at hr
    rw [hv] at hr
    cases hr

theorem rnum_st (o : Nat) (T : List UInt8) (st : Option Nat) (w : World) (h : RSt w o T st) (hs : T.length ≤ 140737488351232) :
    Calls Try.prog 37 #[.pointer (some ⟨o, 0, none⟩)] w (RNumPost o T st w) := by
  cases st with
  | none =>
    obtain ⟨s, hz, hi⟩ := h
    exact (rnum_dead o s w hi hz).mono fun e w' h => ⟨h.1, h.2.1, s, hz, h.2.2⟩
  | some a =>
    obtain ⟨ha, hi⟩ := h
    have hz : (str (T.drop a)).size ≤ 140737488351232 := by rw [str_size, List.length_drop]; omega
    cases hr : rint 1125899906842624 (T.drop a) with
    | none =>
      have hp : rd 0 (rint 1125899906842624) T (some a) = (0, none) := rd_none hr
      refine (rnum_bad o _ w hi hz (by rw [str_data]; exact hr)).mono fun e w' h => ?_
      unfold RNumPost
      rw [hp]
      exact ⟨h.1, h.2.1, _, hz, h.2.2⟩
    | some xn =>
      obtain ⟨x, n⟩ := xn
      have hp : rd 0 (rint 1125899906842624) T (some a) = (x, some (a + n)) := rd_some hr
      have hn : n ≤ (T.drop a).length := by
        unfold rint at hr
        split at hr
        · cases hr
        · rename_i hv
          split at hr
          · cases hr; exact rvar_le hv
          · cases hr
      rw [List.length_drop] at hn
      refine (rnum_good o _ w hi hz (by rw [str_data]; exact hr)).mono fun e w' h => ?_
      unfold RNumPost
      rw [hp]
      refine ⟨h.1, h.2.1, by omega, ?_⟩
      have := h.2.2
      rw [str_data, List.drop_drop] at this
      exact this

def RTxtPost (o : Nat) (T : List UInt8) (st : Option Nat) (w : World) (e : Ending) (w' : World) : Prop :=
  KeepsBut (fun k => k = o) w w' ∧ e = .returned (.string (str (rd [] (rtext 1000) T st).1)) ∧ RSt w' o T (rd [] (rtext 1000) T st).2

set_option maxHeartbeats 1000000 in
set_option maxRecDepth 100000 in
theorem rtxt_dead (o : Nat) (s : ByteArray) (w : World) (h : RIn w o s false) (hs : s.size ≤ 140737488351232) :
    Calls Try.prog 35 #[.pointer (some ⟨o, 0, none⟩)] w fun e w' => KeepsBut (fun k => k = o) w w' ∧ e = .returned (.string (str [])) ∧ RIn w' o s false := by
  have HF := Lib.hid (rtext_any s w hs)
  have H := Lib.hid h
  have c0 := h.c0
  clear h
  go_enter Try.func35, Try.ntmps35
  go_wp2_with fail
  refine HF.out.mono ?_
  rintro e w1 ⟨hd, x, n, c, rfl, _⟩
  have H1 := Lib.hid (H.out.drew hd)
  have HK := Lib.hid (hd.keeps (fun k => k = o))
  have c1 := H1.out.c1
  have c0 := H1.out.c0
  have f := H1.out.f
  clear hd HF
  go_wp2
  go_ret
  exact ⟨HK.out.trans (ks _ _ _ _), rfl, H1.out.off⟩

set_option maxHeartbeats 1000000 in
set_option maxRecDepth 100000 in
theorem rtxt_bad (o : Nat) (s : ByteArray) (w : World) (h : RIn w o s true) (hs : s.size ≤ 140737488351232) (hr : rtext 1000 s.data.toList = none) :
    Calls Try.prog 35 #[.pointer (some ⟨o, 0, none⟩)] w fun e w' => KeepsBut (fun k => k = o) w w' ∧ e = .returned (.string (str [])) ∧ RIn w' o s false := by
  have HF := Lib.hid (rtext_any s w hs)
  have H := Lib.hid h
  have c0 := h.c0
  clear h
  go_enter Try.func35, Try.ntmps35
  go_wp2_with fail
  refine HF.out.mono ?_
  rintro e w1 ⟨hd, x, n, c, rfl, hxn⟩
  have H1 := Lib.hid (H.out.drew hd)
  have HK := Lib.hid (hd.keeps (fun k => k = o))
  have c1 := H1.out.c1
  have c0 := H1.out.c0
  have f := H1.out.f
  clear hd HF
  rcases hxn with ⟨hv, rfl⟩ | ⟨hv, _, _, hc⟩
  · rw [hr] at hv; cases hv
  · have hcn : (c != 0) = true := by rw [bne_iff_ne]; exact hc
    clear hc hv hr
    go_wp2
    go_ret
    exact ⟨HK.out.trans (ks _ _ _ _), rfl, H1.out.off⟩

theorem rtext_n {m : Nat} {r t : List UInt8} {n : Nat} (h : rtext m r = some (t, n)) : n ≤ r.length := by
  unfold rtext at h
  cases hr : rint m r with
  | none => rw [hr] at h; cases h
  | some xn =>
    obtain ⟨x, k⟩ := xn
    rw [hr] at h
    simp only at h
    have hk : k ≤ r.length := by
      unfold rint at hr
      split at hr
      · cases hr
      · rename_i hv
        split at hr
        · cases hr; exact rvar_le hv
        · cases hr
    split at h
    · cases h; omega
    · cases h

set_option maxHeartbeats 1000000 in
set_option maxRecDepth 100000 in
theorem rtxt_good (o : Nat) (s : ByteArray) (w : World) (h : RIn w o s true) (hs : s.size ≤ 140737488351232) {t : List UInt8} {n : Nat} (hr : rtext 1000 s.data.toList = some (t, n)) :
    Calls Try.prog 35 #[.pointer (some ⟨o, 0, none⟩)] w fun e w' => KeepsBut (fun k => k = o) w w' ∧ e = .returned (.string (str t)) ∧ RIn w' o (str (s.data.toList.drop n)) true := by
  have HF := Lib.hid (rtext_any s w hs)
  have H := Lib.hid h
  have c0 := h.c0
  clear h
  have hlen : s.data.toList.length = s.size := by simp
  have hn := rtext_n hr
  rw [hlen] at hn
  have HEX := Lib.hid (ext_end s n)
  go_enter Try.func35, Try.ntmps35
  go_wp2_with fail
  refine HF.out.mono ?_
  rintro e w1 ⟨hd, x', n', c, rfl, hxn⟩
  have H1 := Lib.hid (H.out.drew hd)
  have HK := Lib.hid (hd.keeps (fun k => k = o))
  have c1 := H1.out.c1
  have c0 := H1.out.c0
  have f := H1.out.f
  clear hd HF
  rcases hxn with ⟨hv, rfl⟩ | ⟨hv, _, _, hc⟩
  · rw [hr] at hv
    cases hv
    clear hr hlen
    go_wp2
    go_ret
    rw [← HEX.out]
    exact ⟨HK.out.trans (ks _ _ _ _), rfl, H1.out.move _⟩
  · rw [hr] at hv; cases hv

theorem rtxt_st (o : Nat) (T : List UInt8) (st : Option Nat) (w : World) (h : RSt w o T st) (hs : T.length ≤ 140737488351232) :
    Calls Try.prog 35 #[.pointer (some ⟨o, 0, none⟩)] w (RTxtPost o T st w) := by
  cases st with
  | none =>
    obtain ⟨s, hz, hi⟩ := h
    exact (rtxt_dead o s w hi hz).mono fun e w' h => ⟨h.1, h.2.1, s, hz, h.2.2⟩
  | some a =>
    obtain ⟨ha, hi⟩ := h
    have hz : (str (T.drop a)).size ≤ 140737488351232 := by rw [str_size, List.length_drop]; omega
    cases hr : rtext 1000 (T.drop a) with
    | none =>
      have hp : rd [] (rtext 1000) T (some a) = ([], none) := rd_none hr
      refine (rtxt_bad o _ w hi hz (by rw [str_data]; exact hr)).mono fun e w' h => ?_
      unfold RTxtPost
      rw [hp]
      exact ⟨h.1, h.2.1, _, hz, h.2.2⟩
    | some xn =>
      obtain ⟨x, n⟩ := xn
      have hp : rd [] (rtext 1000) T (some a) = (x, some (a + n)) := rd_some hr
      have hn := rtext_n hr
      rw [List.length_drop] at hn
      refine (rtxt_good o _ w hi hz (by rw [str_data]; exact hr)).mono fun e w' h => ?_
      unfold RTxtPost
      rw [hp]
      refine ⟨h.1, h.2.1, by omega, ?_⟩
      have := h.2.2
      rw [str_data, List.drop_drop] at this
      exact this
end Go.Proofs.Ytmkcphelmgkipaa
