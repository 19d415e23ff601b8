import Derived.Test.YtmkcphelmgkipaaT16
set_option linter.unusedVariables false
set_option linter.unusedSimpArgs false
namespace Go.Proofs.Ytmkcphelmgkipaa
open Go.RowKit

theorem out_new (w : World) : OutAt (w.alloc (.cells #[.slice none 0 0] 85)) w.heap.size (.slice none 0 0) [] :=
  ⟨heap_alloc_new w _, World.ownsRow_nil _ _ _ _⟩

set_option maxHeartbeats 1000000 in
set_option maxRecDepth 100000 in
theorem encode_bad (m : Man) (sv : Value) (w : World) (hf : Fits m) (hS : SnapsAt w sv m.snaps) (hc : chk m ≠ 0) :
    Calls Try.prog 17 #[m.val sv] w fun e w' => e = .returned (.tuple #[.string (str []), .int .i64 (chk m)]) ∧ Below w.heap.size w w' := by
  have HC := Lib.hid (check_any m sv (w.alloc (.cells #[.string m.vol, .int .u64 m.key, .int .i64 m.serial, .int .i64 m.size, .string m.bvol, .int .i64 m.bseq, sv] 29)) hf (hS.below ((Below.refl _ w).alloc (Nat.le_refl _) _) (Nat.le_refl _)))
  have hn : (chk m != 0) = true := by rw [bne_iff_ne]; exact hc
  generalize chk m = c at *
  obtain ⟨v, key, serial, size, bv, bs, l⟩ := m
  simp only [Man.val] at *
  clear hf hS hc
  go_enter Try.func17, Try.ntmps17
  go_wp2_with fail
  refine HC.out.mono ?_
  rintro e w1 ⟨rfl, hb⟩
  go_wp2
  go_ret2
  exact ⟨rfl, alloc_trans hb⟩

set_option maxHeartbeats 1000000 in
set_option maxRecDepth 100000 in
theorem encode_good (m : Man) (sv : Value) (w : World) (hf : Fits m) (hk : 0 ≤ m.key ∧ m.key < 18446744073709551616) (hS : SnapsAt w sv m.snaps) (hc : chk m = 0) :
    Calls Try.prog 17 #[m.val sv] w fun e w' => e = .returned (.tuple #[.string (str (enc m)), .int .i64 0]) ∧ Below w.heap.size w w' := by
  have hchk := check_any m sv (w.alloc (.cells #[.string m.vol, .int .u64 m.key, .int .i64 m.serial, .int .i64 m.size, .string m.bvol, .int .i64 m.bseq, sv] 29)) hf (hS.below ((Below.refl _ w).alloc (Nat.le_refl _) _) (Nat.le_refl _))
  rw [hc] at hchk
  have HC := Lib.hid hchk
  have HG := Lib.hid (chk_good hc)
  have hser := (chk_good hc).serial
  have hsiz := (chk_good hc).size
  have hmany := (chk_good hc).many
  have hbseq := (may_size (chk_good hc).may).2
  have hvsz : m.vol.size ≤ 32 := by have := (vol_size (chk_good hc).vol).2; simpa using this
  have hbsz : m.bvol.size ≤ 32 := by have := (may_size (chk_good hc).may).1; simpa using this
  have HF : Hid (front m = [77, 65, 78, 50] ++ txt m.vol.data.toList ++ be m.key.toNat 8 ++ (vr m.serial.toNat ++ vr m.size.toNat) ++ txt m.bvol.data.toList ++ (vr m.bseq.toNat ++ vr m.snaps.length)) := rfl
  have HFL := Lib.hid (front_le (chk_good hc))
  have HE : Hid (enc m = sealed (front m ++ snapsBytes m.snaps)) := rfl
  have HSL : Hid (∀ k, k ≤ m.snaps.length → (snapsBytes (m.snaps.take k)).length ≤ 91 * k) := snapsBytes_le (chk_good hc)
  have HAT : Hid (∀ k, k < m.snaps.length → (m.snaps.getD k Snp.zero).name.size ≤ 64 ∧ (0 ≤ (m.snaps.getD k Snp.zero).seq ∧ (m.snaps.getD k Snp.zero).seq < 1099511627776) ∧ (0 ≤ (m.snaps.getD k Snp.zero).upto ∧ (m.snaps.getD k Snp.zero).upto < 1099511627776)) := (chk_good hc).at
  have t1 := txt_length m.vol.data.toList
  have t2 := txt_length m.bvol.data.toList
  have t3 := vr_le m.serial.toNat
  have t4 := vr_le m.size.toNat
  have e1 : m.vol.data.toList.length = m.vol.size := by simp
  have e2 : m.bvol.data.toList.length = m.bvol.size := by simp
  rw [e1] at t1
  rw [e2] at t2
  clear hchk hc e1 e2
  obtain ⟨a, cap, hsv, hcs⟩ := hS
  have HCS := Lib.hid hcs
  clear hcs
  obtain ⟨M, hM⟩ : ∃ M : Man, M = m := ⟨_, rfl⟩
  have HM := Lib.hid hM
  obtain ⟨v, key, serial, size, bv, bs, l⟩ := m
  rw [← hM] at HF HE HFL HG
  clear hM
  simp only [Man.val] at *
  subst hsv
  clear hf
  go_enter Try.func17, Try.ntmps17
  go_wp2_with fail
  refine HC.out.mono ?_
  rintro e w1 ⟨rfl, hb⟩
  have hbox : w1.heap[w.heap.size]? = some (.cells #[.string v, .int .u64 key, .int .i64 serial, .int .i64 size, .string bv, .int .i64 bs, .slice a l.length cap] 29 (0, 0)) := by
    rw [hb.block _ (by simp)]; exact heap_alloc_new w _
  have hw1 : w.heap.size < w1.heap.size := by have := hb.size; simp at this; omega
  have HW1 := Lib.hid (alloc_trans hb)
  have HB0 := Lib.hid hbox
  clear hb hbox
  obtain ⟨o, ho⟩ : ∃ o, o = w1.heap.size := ⟨_, rfl⟩
  -- the magic
  have hO0 := out_new w1
  rw [← ho] at hO0
  have hB1 : Below o w1 (w1.alloc (.cells #[.slice none 0 0] 85)) := by rw [ho]; exact (Below.refl _ w1).alloc (Nat.le_refl _) _
  have hs0 : (w1.alloc (.cells #[.slice none 0 0] 85)).heap.size = o + 1 := by rw [ho]; simp
  go_wp2_with fail
  rw [← ho]
  obtain ⟨W0, hW0⟩ : ∃ W0, W0 = w1.alloc (.cells #[.slice none 0 0] 85) := ⟨_, rfl⟩
  rw [← hW0] at hO0 hB1 hs0 ⊢
  refine (raw_new o _ ⟨#[77, 65, 78, 50]⟩ (.slice none 0 0) [] _ hO0 (by simp [ByteArray.size]) hs0.symm).mono ?_
  rintro e w2 ⟨rfl, u2, hO2, ht2⟩
  have hb2 := ht2.below hO0.own hO0.lt
  have B2 := Lib.hid ((hB1.trans hb2).block _ (by omega) |>.trans HB0.out)
  have K2 := Lib.hid (hB1.trans hb2)
  have l2 : ([] ++ (ByteArray.mk #[77, 65, 78, 50]).data.toList).length = 4 := rfl
  generalize hL2 : [] ++ (ByteArray.mk #[77, 65, 78, 50]).data.toList = L2 at *
  have HL2 := Lib.hid hL2
  have hwo : w.heap.size < o := by omega
  have HOO := Lib.hid ho
  clear hO0 ht2 hB1 hs0 hb2 hW0 hL2 ho
  -- the volume
  have c0 := cell_of_heap B2.out 0
  simp only [List.getElem?_toArray, List.getElem?_cons_zero] at c0
  go_wp2_with fail
  refine (text_new o _ v u2 L2 _ hO2 (by omega) rfl).mono ?_
  rintro e w3 ⟨rfl, u3, hO3, ht3⟩
  have hb3 := ht3.below hO2.own hO2.lt
  have B3 := Lib.hid (hb3.block _ (by omega) |>.trans B2.out)
  have K3 := Lib.hid (K2.out.trans hb3)
  have l3 : (L2 ++ txt v.data.toList).length ≤ 45 := by rw [List.length_append]; omega
  generalize hL3 : L2 ++ txt v.data.toList = L3 at *
  have HL3 := Lib.hid hL3
  clear hO2 ht3 hb3 hL3 c0
  -- the key
  have c1 := cell_of_heap B3.out 1
  simp only [List.getElem?_toArray, List.getElem?_cons_zero, List.getElem?_cons_succ] at c1
  go_wp2_with fail
  refine (fixed_any o 8 key u3 L3 hk.1 hk.2 (by omega) (by omega) (by omega) _ hO3).mono ?_
  rintro e w4 ⟨rfl, u4, hO4, ht4, _⟩
  have hb4 := ht4.below hO3.own hO3.lt
  have B4 := Lib.hid (hb4.block _ (by omega) |>.trans B3.out)
  have K4 := Lib.hid (K3.out.trans hb4)
  have l4 : (L3 ++ be key.toNat 8).length ≤ 53 := by rw [List.length_append, be_length]; omega
  generalize hL4 : L3 ++ be key.toNat 8 = L4 at *
  have HL4 := Lib.hid hL4
  clear hO3 hb4 ht4 hL4 c1
  -- the serial and the size
  have c2 := cell_of_heap B4.out 2
  have c3 := cell_of_heap B4.out 3
  simp only [List.getElem?_toArray, List.getElem?_cons_zero, List.getElem?_cons_succ] at c2 c3
  go_wp2_with fail
  refine (var_two o _ serial size u4 L4 _ (by omega) (by omega) (by omega) (by omega) hO4 (by omega) rfl).mono ?_
  rintro e w5 ⟨rfl, u5, hO5, ht5, _⟩
  have hb5 := ht5.below hO4.own hO4.lt
  have B5 := Lib.hid (hb5.block _ (by omega) |>.trans B4.out)
  have K5 := Lib.hid (K4.out.trans hb5)
  have l5 : (L4 ++ (vr serial.toNat ++ vr size.toNat)).length ≤ 71 := by rw [List.length_append, List.length_append]; omega
  generalize hL5 : L4 ++ (vr serial.toNat ++ vr size.toNat) = L5 at *
  have HL5 := Lib.hid hL5
  clear hO4 ht5 hb5 hL5 c2 c3
  -- the base
  have c4 := cell_of_heap B5.out 4
  simp only [List.getElem?_toArray, List.getElem?_cons_zero, List.getElem?_cons_succ] at c4
  go_wp2_with fail
  refine (text_new o _ bv u5 L5 _ hO5 (by omega) rfl).mono ?_
  rintro e w6 ⟨rfl, u6, hO6, ht6⟩
  have hb6 := ht6.below hO5.own hO5.lt
  have B6 := Lib.hid (hb6.block _ (by omega) |>.trans B5.out)
  have K6 := Lib.hid (K5.out.trans hb6)
  have l6 : (L5 ++ txt bv.data.toList).length ≤ 112 := by rw [List.length_append]; omega
  generalize hL6 : L5 ++ txt bv.data.toList = L6 at *
  have HL6 := Lib.hid hL6
  clear hO5 ht6 hb6 hL6 c4
  have c5 := cell_of_heap B6.out 5
  have c6 := cell_of_heap B6.out 6
  simp only [List.getElem?_toArray, List.getElem?_cons_zero, List.getElem?_cons_succ] at c5 c6
  go_wp2_with fail
  refine (var_two o _ bs l.length u6 L6 _ (by omega) (by omega) (by omega) (by omega) hO6 (by omega) rfl).mono ?_
  rintro e w7 ⟨rfl, u7, hO7, ht7, _⟩
  have hb7 := ht7.below hO6.own hO6.lt
  have B7 := Lib.hid (hb7.block _ (by omega) |>.trans B6.out)
  have K7 := Lib.hid (K6.out.trans hb7)
  rw [Int.toNat_natCast] at hO7
  have hL7 : L6 ++ (vr bs.toNat ++ vr l.length) = front M := by
    rw [HF.out, HM.out, HL6.out.symm, HL5.out.symm, HL4.out.symm, HL3.out.symm, HL2.out.symm]; simp
  rw [hL7] at hO7
  have hl7 := HFL.out
  clear hO6 ht7 hb7 hL7 c5 c6
  have c6 := cell_of_heap B7.out 6
  simp only [List.getElem?_toArray, List.getElem?_cons_zero, List.getElem?_cons_succ] at c6
  generalize hF7 : front M = F7 at *
  have HF7 := Lib.hid hF7
  clear hF7
  have KW := Lib.hid (HW1.out.trans (K7.out.mono (by omega)))
  have hl7' : F7.length ≤ 140 := hl7
  clear hl7
  go_wp2
  go_loopw [48] (fun i wr => ∃ (k : Nat) (u : Value), i = .int .i64 k ∧ k ≤ l.length ∧ OutAt wr o u (F7 ++ snapsBytes (l.take k)) ∧ Below o w7 wr) (fun i _ => l.length - (intOf i).toNat)
  case atStart => exact ⟨0, u7, rfl, by omega, by simpa [snapsBytes] using hO7, Below.refl _ _⟩
  case round =>
    obtain ⟨k, u, rfl, hkl, hu, hbr⟩ := hrel
    have hsl := HSL.out k hkl
    by_cases hlt : k < l.length
    · obtain ⟨b, off, hab, hc0, hc1, hc2⟩ := HCS.out k hlt
      have hkw : Below w.heap.size w wr := KW.out.trans (hbr.mono (by omega))
      have hbw := World.block_lt_of_cell? _ _ hc0
      have d0 := (hkw.cell (p := ⟨b, off + k * 3, none⟩) hbw).trans hc0
      have d1 := (hkw.cell (p := ⟨b, off + k * 3 + 1, none⟩) hbw).trans hc1
      have d2 := (hkw.cell (p := ⟨b, off + k * 3 + 2, none⟩) hbw).trans hc2
      have HT := Lib.hid (snapsBytes_take l k hlt)
      obtain ⟨x1, x2, x3⟩ := HAT.out k hlt
      obtain ⟨x, hx⟩ : ∃ x, x = l.getD k Snp.zero := ⟨_, rfl⟩
      rw [← hx] at d0 d1 d2 HT x1 x2 x3
      have HXB : Hid (snapBytes x = txt x.name.data.toList ++ (vr x.seq.toNat ++ vr x.upto.toNat)) := rfl
      have s1 := txt_length x.name.data.toList
      have s2 : x.name.data.toList.length = x.name.size := by simp
      rw [s2] at s1
      have HAB := Lib.hid hab
      subst hab
      clear hx hc0 hc1 hc2 s2 hkw
      have hml : (F7 ++ snapsBytes (l.take k)).length ≤ 9240 := by rw [List.length_append]; omega
      generalize hFK : F7 ++ snapsBytes (l.take k) = FK at *
      have HFK := Lib.hid hFK
      clear hFK hsl
      have hua := hu.alloc (.cells #[.string x.name, .int .i64 x.seq, .int .i64 x.upto] 56)
      have hou := hu.lt
      have huo := hu.own_lt
      go_wp2_with fail
      refine (text_new o _ x.name u FK _ hua (by omega) (by simp)).mono ?_
      rintro e w8 ⟨rfl, u8, hO8, ht8⟩
      have hx8 : w8.heap[wr.heap.size]? = some (.cells #[.string x.name, .int .i64 x.seq, .int .i64 x.upto] 56 (0, 0)) := by
        rw [ht8.block _ (by simp) (by omega) (fun e => by have := huo _ e.symm; omega)]; exact heap_alloc_new wr _
      have hb8 := (((Below.refl o wr).alloc (by omega) _).trans (ht8.below hua.own hua.lt))
      have f1 := cell_of_heap hx8 1
      have f2 := cell_of_heap hx8 2
      simp only [List.getElem?_toArray, List.getElem?_cons_zero, List.getElem?_cons_succ] at f1 f2
      have K8 := Lib.hid (hbr.trans hb8)
      have l8 : (FK ++ txt x.name.data.toList).length ≤ 9400 := by rw [List.length_append]; omega
      generalize hF8 : FK ++ txt x.name.data.toList = F8 at *
      have HF8 := Lib.hid hF8
      clear ht8 hx8 hb8 hF8 hu hua huo d0 d1 d2
      go_wp2_with fail
      refine (var_two o _ x.seq x.upto u8 F8 _ (by omega) (by omega) (by omega) (by omega) hO8 (by omega) rfl).mono ?_
      rintro e w9 ⟨rfl, u9, hO9, ht9, _⟩
      have K9 := Lib.hid (K8.out.trans (ht9.below hO8.own hO8.lt))
      have HO9 := Lib.hid hO9
      clear hO8 ht9 hO9
      go_wp2
      go_roundw
      case rel =>
        refine ⟨k + 1, u9, by go_num, by omega, ?_, K9.out⟩
        have := HO9.out
        rw [HT.out, HXB.out, ← List.append_assoc, HFK.out, ← List.append_assoc, HF8.out]
        exact this
      case measure => simp [intOf]; omega
    · obtain rfl : k = l.length := by omega
      rw [List.take_length] at hu hsl
      have hb9 : Below w.heap.size w wr := KW.out.trans (hbr.mono (by omega))
      have HE2 : Hid (enc M = sealed (F7 ++ snapsBytes l)) := by
        show _ = _
        rw [HE.out, HM.out]
      have hsz : (F7 ++ snapsBytes l).length ≤ 140737488351232 := by rw [List.length_append]; omega
      go_wp2_with fail
      refine (string_any o u _ wr hu).mono ?_
      rintro e wr ⟨rfl, rfl⟩
      generalize hFF : F7 ++ snapsBytes l = FF at *
      have HFF := Lib.hid hFF
      clear hFF
      go_wp2_with fail
      refine (seal_any (str FF) wr (by rw [str_size]; exact hsz)).mono ?_
      rintro e w9 ⟨rfl, hb10⟩
      have hb11 := hb9.trans (hb10.mono hb9.size)
      rw [str_data, ← HE2.out]
      have HMM := Lib.hid HM.out
      clear hb9 hb10
      go_wp2
      go_ret2
      exact ⟨by rw [← HMM.out]; rfl, hb11⟩
end Go.Proofs.Ytmkcphelmgkipaa
