import Derived.Test.YtmkcphelmgkipaaT21
set_option linter.unusedVariables false
set_option linter.unusedSimpArgs false
namespace Go.Proofs.Ytmkcphelmgkipaa
open Go.RowKit
attribute [local go_sem ↓] Go.wp_at_zero Go.wp_at_succ

def TextPost (o most : Nat) (s : ByteArray) (st : Option Nat) (w : World) (e' : Ending) (w' : World) : Prop :=
  KeepsBut (fun k => k = o) w w' ∧ e' = .returned (.string (str (rd [] (rtext most) s.data.toList st).1)) ∧ St w' o s (rd [] (rtext most) s.data.toList st).2

/-- The last part of Text, behind what was taken: the reader may go back. -/
theorem St.keeps {w w' : World} {o : Nat} {s : ByteArray} {st : Option Nat} (h : St w o s st) (hw : w'.heap[o]? = w.heap[o]?) : St w' o s st := by
  cases st with
  | none => obtain ⟨a, e, he, hi⟩ := h; exact ⟨a, e, he, hw.trans hi⟩
  | some a => exact ⟨h.1, hw.trans h.2⟩

set_option maxHeartbeats 1000000 in
set_option maxRecDepth 100000 in
theorem text_st (o most : Nat) (s : ByteArray) (st : Option Nat) (w : World) (h : St w o s st) (hs : s.size ≤ 140737488351232) (hm : most ≤ 4611686018427387904) :
    Calls Try.prog 29 #[.pointer (some ⟨o, 0, none⟩), .int .i64 most] w (TextPost o most s st w) := by
  obtain ⟨a0, e0, hi0, ha0⟩ : ∃ a e, InAt w o a e s ∧ ∀ a', st = some a' → a = (a' : Int) := by
    cases st with
    | none => obtain ⟨a, e, _, hi⟩ := h; exact ⟨a, e, hi, fun _ e => by cases e⟩
    | some a => exact ⟨_, _, h.2, fun _ e => by cases e; rfl⟩
  have HA := Lib.hid (at_any o a0 e0 s w hi0)
  have HV := Lib.hid (int_st o most s st w h hs hm)
  clear hi0
  go_enter Try.func29, Try.ntmps29
  go_wp2_with fail
  refine HA.out.mono ?_
  rintro r w ⟨rfl, rfl⟩
  go_wp2_with fail
  refine HV.out.mono ?_
  rintro r w1 ⟨hk, rfl, hst⟩
  -- what the number came to
  cases hst1 : (rd 0 (rint most) s.data.toList st).2 with
  | none =>
    have hz : (rd 0 (rint most) s.data.toList st).1 = 0 := by
      cases st with
      | none => rfl
      | some a =>
        cases hr : rint most (s.data.toList.drop a) with
        | none => rw [rd_none hr]
        | some xn => obtain ⟨x, n⟩ := xn; rw [rd_some hr] at hst1; cases hst1
    have hp : rd [] (rtext most) s.data.toList st = ([], none) := by
      cases st with
      | none => rfl
      | some a =>
        cases hr : rint most (s.data.toList.drop a) with
        | none => exact rd_none (by unfold rtext; rw [hr])
        | some xn => obtain ⟨x, n⟩ := xn; rw [rd_some hr] at hst1; cases hst1
    rw [hst1] at hst
    rw [hz]
    obtain ⟨a1, e1, he1, hi1⟩ := hst
    have HT := Lib.hid (take_dead o a1 e1 (0 : Nat) s w1 hi1 he1)
    have hc0 := hi1.c0
    have hc1 := hi1.c1
    have hne : (e1 != 0) = true := by rw [bne_iff_ne]; exact he1
    have HP := Lib.hid hp
    have HK := Lib.hid hk
    have HI := Lib.hid hi1
    have HE := Lib.hid he1
    clear hz hp hst1 hk hi1 he1 HV h
    go_wp2_with fail
    refine HT.out.mono ?_
    rintro r w1 ⟨rfl, rfl⟩
    by_cases hlt : a0 < a1
    · go_wp2
      go_region_with (go_at_call 58; refine (stand_any o a1 e1 _ _ s _ ?_).mono ?_; (exact HI.out); rintro r w2 ⟨rfl, hI, hK⟩)
      all_goals
        have HQ : Hid (TextPost o most s st w (.returned (.string (str []))) w2) := ⟨(HK.out.trans (keeps_drewN _ w1 1)).trans hK, by rw [HP.out], by rw [HP.out]; exact ⟨_, _, HE.out, hI⟩⟩
        clear hI hK
        go_wp2
        go_ret
        exact HQ.out
    · go_wp2
      go_ret
      exact ⟨HK.out, by rw [HP.out]; rfl, by rw [HP.out]; exact ⟨_, _, HE.out, HI.out⟩⟩
  | some b =>
    obtain ⟨a, x, n, rfl, hr, rfl⟩ : ∃ a x n, st = some a ∧ rint most (s.data.toList.drop a) = some (x, n) ∧ b = a + n := by
      cases st with
      | none => cases hst1
      | some a =>
        cases hr : rint most (s.data.toList.drop a) with
        | none => rw [rd_none hr] at hst1; cases hst1
        | some xn => obtain ⟨x, n⟩ := xn; rw [rd_some hr] at hst1; cases hst1; exact ⟨a, x, n, rfl, hr, rfl⟩
    obtain rfl := ha0 a rfl
    rw [rd_some hr] at hst ⊢
    obtain ⟨hb, hi1⟩ := hst
    have hn1 : 1 ≤ n := by
      unfold rint at hr
      cases hv : rvar (s.data.toList.drop a) with
      | none => rw [hv] at hr; cases hr
      | some xn =>
        obtain ⟨x', n'⟩ := xn
        rw [hv] at hr
        have hbd := rvar_bd hv
        simp only at hr
        split at hr
        · cases hr; exact hbd.2.1
        · cases hr
    have hdl : (s.data.toList.drop a).length = s.size - a := by simp
    have HK := Lib.hid hk
    by_cases hx : x ≤ s.size - (a + n)
    · have hp : rd [] (rtext most) s.data.toList (some a) = ((s.data.toList.drop (a + n)).take x, some (a + (n + x))) := by
        refine rd_some ?_
        unfold rtext
        rw [hr]
        rw [← List.drop_drop]
        exact if_pos (by rw [hdl]; omega)
      have HT := Lib.hid (take_ok o (a + n) x s w1 hi1 hs (by omega))
      have HP := Lib.hid hp
      have hex : s.extract (a + n) (a + n + x) = str ((s.data.toList.drop (a + n)).take x) := by
        rw [ext_str]; congr 2; omega
      have HEX := Lib.hid hex
      clear hr hst1 hi1 hp hex HV h hk ha0 hdl
      go_wp2_with fail
      refine HT.out.mono ?_
      rintro r w2 ⟨rfl, hI, hK⟩
      rw [HEX.out]
      have h1 := hI.c1
      have HI := Lib.hid hI
      clear hI
      go_wp2
      go_ret
      refine ⟨HK.out.trans hK, by rw [HP.out]; rfl, ?_⟩
      rw [HP.out]
      exact ⟨by omega, by have := HI.out; rw [show a + (n + x) = a + n + x by omega]; exact this⟩
    · have hp : rd [] (rtext most) s.data.toList (some a) = ([], none) := by
        refine rd_none ?_
        unfold rtext
        rw [hr]
        exact if_neg (by rw [hdl]; omega)
      have HT := Lib.hid (take_short o (a + n) x s w1 hi1 hb hs (by omega))
      have HP := Lib.hid hp
      clear hr hst1 hi1 hp HV h hk ha0 hdl
      go_wp2_with fail
      refine HT.out.mono ?_
      rintro r w2 ⟨rfl, hI, hK⟩
      have h0 := hI.c0
      have h1 := hI.c1
      have hlt : (a : Int) < ((a + n : Nat) : Int) := by omega
      have HI := Lib.hid hI
      have HK2 := Lib.hid hK
      clear hI hK
      go_wp2
      go_region_with (go_at_call 58; refine (stand_any o ((a + n : Nat) : Int) 10 _ _ s _ ?_).mono ?_; (exact HI.out); rintro r w3 ⟨rfl, hI, hK⟩)
      all_goals
        have HQ : Hid (TextPost o most s (some a) w (.returned (.string (str []))) w3) := ⟨((HK.out.trans HK2.out).trans (keeps_drewN _ w2 1)).trans hK, by rw [HP.out], by rw [HP.out]; exact ⟨_, _, by omega, hI⟩⟩
        clear hI hK
        go_wp2
        go_ret
        exact HQ.out

def FixedPost (o k : Nat) (s : ByteArray) (st : Option Nat) (w : World) (e' : Ending) (w' : World) : Prop :=
  KeepsBut (fun k => k = o) w w' ∧ e' = .returned (.int .u64 ((rd 0 (rfixed k) s.data.toList st).1 : Nat)) ∧ St w' o s (rd 0 (rfixed k) s.data.toList st).2

set_option maxHeartbeats 1000000 in
set_option maxRecDepth 100000 in
theorem infixed_st (o k : Nat) (s : ByteArray) (st : Option Nat) (w : World) (h : St w o s st) (hs : s.size ≤ 140737488351232) (hk1 : 1 ≤ k) (hk8 : k ≤ 8) :
    Calls Try.prog 30 #[.pointer (some ⟨o, 0, none⟩), .int .i64 k] w (FixedPost o k s st w) := by
  have hnil : (str []).size ≤ 8 := by rw [str_size]; simp
  have HZ : Hid (beFrom 0 (str []).data.toList = 0) := rfl
  cases st with
  | none =>
    obtain ⟨a, e, he, hi⟩ := h
    have HR := Lib.hid (ready_any o a e s w hi)
    have HT := Lib.hid (take_dead o a e k s w hi he)
    have hz : (e == 0) = false := by rw [beq_eq_false_iff_ne]; exact he
    have HI := Lib.hid hi
    have HE := Lib.hid he
    clear hi he
    go_enter Try.func30, Try.ntmps30
    go_wp2_with fail
    refine HR.out.mono ?_
    rintro r w ⟨rfl, rfl⟩
    go_wp2_with fail
    refine HT.out.mono ?_
    rintro r w ⟨rfl, rfl⟩
    go_wp2_with fail
    refine (wnumber_any _ _ hnil).mono ?_
    rintro r w ⟨rfl, rfl⟩
    rw [HZ.out]
    go_wp2
    go_ret
    exact ⟨KeepsBut.refl _ _, rfl, _, _, HE.out, HI.out⟩
  | some a =>
    obtain ⟨ha, hi⟩ := h
    have HR := Lib.hid (ready_any o a 0 s w hi)
    have hdl : (s.data.toList.drop a).length = s.size - a := by simp
    by_cases hn : s.size - a < k
    · have hp : rd 0 (rfixed k) s.data.toList (some a) = (0, none) := rd_none (by unfold rfixed; rw [if_pos (by rw [hdl]; exact hn)])
      have HP := Lib.hid hp
      have HT := Lib.hid (take_short o a k s w hi ha hs hn)
      clear hi hp hdl
      go_enter Try.func30, Try.ntmps30
      go_wp2_with fail
      refine HR.out.mono ?_
      rintro r w ⟨rfl, rfl⟩
      go_wp2_with fail
      refine HT.out.mono ?_
      rintro r w1 ⟨rfl, hI, hK⟩
      have HQ : Hid (FixedPost o k s (some a) w (.returned (.int .u64 0)) w1) := ⟨hK, by rw [HP.out]; rfl, by rw [HP.out]; exact ⟨_, _, by omega, hI⟩⟩
      clear hI hK
      go_wp2_with fail
      refine (wnumber_any _ _ hnil).mono ?_
      rintro r w1 ⟨rfl, rfl⟩
      rw [HZ.out]
      go_wp2
      go_ret
      exact HQ.out
    · have hp : rd 0 (rfixed k) s.data.toList (some a) = (beFrom 0 ((s.data.toList.drop a).take k), some (a + k)) := rd_some (by unfold rfixed; rw [if_neg (by rw [hdl]; exact hn)])
      have HP := Lib.hid hp
      have HT := Lib.hid (take_ok o a k s w hi hs (by omega))
      have hes : (s.extract a (a + k)).size ≤ 8 := by simp; omega
      have hex : (s.extract a (a + k)).data.toList = (s.data.toList.drop a).take k := by rw [Lib.extract_data]; congr 1; omega
      have HEX := Lib.hid hex
      clear hi hp hdl hex
      go_enter Try.func30, Try.ntmps30
      go_wp2_with fail
      refine HR.out.mono ?_
      rintro r w ⟨rfl, rfl⟩
      go_wp2_with fail
      refine HT.out.mono ?_
      rintro r w1 ⟨rfl, hI, hK⟩
      have HQ : Hid (FixedPost o k s (some a) w (.returned (.int .u64 (beFrom 0 ((s.data.toList.drop a).take k) : Nat))) w1) := ⟨hK, by rw [HP.out], by rw [HP.out]; exact ⟨by omega, hI⟩⟩
      clear hI hK
      go_wp2_with fail
      refine (wnumber_any _ _ hes).mono ?_
      rintro r w1 ⟨rfl, rfl⟩
      rw [HEX.out]
      go_wp2
      go_ret
      exact HQ.out

set_option maxHeartbeats 1000000 in
set_option maxRecDepth 100000 in
theorem done_st (o : Nat) (s : ByteArray) (st : Option Nat) (w : World) (h : St w o s st) (hs : s.size ≤ 140737488351232) :
    Calls Try.prog 32 #[.pointer (some ⟨o, 0, none⟩)] w fun e' w' => (∃ n, w' = w.drewN n) ∧ ∃ c : Int, e' = .returned (.int .i64 c) ∧ (c = 0 ↔ st = some s.size) := by
  cases st with
  | none =>
    obtain ⟨a, e, he, hi⟩ := h
    have HE := Lib.hid (err_any o a e s w hi)
    have hz : (e != 0) = true := by rw [bne_iff_ne]; exact he
    have HN := Lib.hid he
    clear hi he
    go_enter Try.func32, Try.ntmps32
    go_wp2_with fail
    refine HE.out.mono ?_
    rintro r w ⟨rfl, rfl⟩
    go_wp2
    go_ret
    exact ⟨⟨0, rfl⟩, e, rfl, by simp [HN.out]⟩
  | some a =>
    obtain ⟨ha, hi⟩ := h
    have HE := Lib.hid (err_any o a 0 s w hi)
    have HL := Lib.hid (left_any o a 0 s w hi ha hs)
    clear hi
    by_cases hlt : a < s.size
    · have hd : decide ((0 : Int) < (s.size : Int) - a) = true := by simp; omega
      go_enter Try.func32, Try.ntmps32
      go_wp2_with fail
      refine HE.out.mono ?_
      rintro r w ⟨rfl, rfl⟩
      go_wp2_with fail
      refine HL.out.mono ?_
      rintro r w' ⟨rfl, n, rfl⟩
      go_wp2
      go_ret
      exact ⟨⟨n, rfl⟩, 11, rfl, by simp; omega⟩
    · obtain rfl : a = s.size := by omega
      go_enter Try.func32, Try.ntmps32
      go_wp2_with fail
      refine HE.out.mono ?_
      rintro r w ⟨rfl, rfl⟩
      go_wp2_with fail
      refine HL.out.mono ?_
      rintro r w' ⟨rfl, n, rfl⟩
      rw [Int.sub_self]
      go_wp2
      go_ret
      exact ⟨⟨n, rfl⟩, 0, rfl, by simp⟩

set_option maxHeartbeats 1000000 in
set_option maxRecDepth 100000 in
theorem read_any (s : ByteArray) (w : World) :
    Calls Try.prog 28 #[.string s] w fun e' w' => e' = .returned (.pointer (some ⟨w.heap.size, 0, none⟩)) ∧ w' = w.alloc (.cells #[.int .i64 0, .int .i64 0, .string s] 103) := by
  go_enter Try.func28, Try.ntmps28
  go_wp2
  go_ret
  exact ⟨rfl, rfl⟩
end Go.Proofs.Ytmkcphelmgkipaa
