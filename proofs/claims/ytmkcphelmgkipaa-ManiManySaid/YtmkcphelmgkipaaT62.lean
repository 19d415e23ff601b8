import Derived.Test.YtmkcphelmgkipaaT61
import Derived.Deep.RegionHeld3
import Derived.Deep.AppendLies
set_option linter.unusedVariables false
set_option linter.unusedSimpArgs false
namespace Go.Proofs.Ytmkcphelmgkipaa
open Go.RowKit
attribute [local go_sem ↓] Go.wp_at_zero Go.wp_at_succ

/-! A snapshot less, by the document's answer. -/

theorem step_own {P : Program} (w : World) {ops : Array Oper} {o : Oper} {a : Act} {K : Act → World → Prop} {Q : Exit → Act → World → Prop} {E : Prop} (hgd : o.guard = none) (s x : Operand) (t : TypeId)
    (ho : o.op = .call { callee := .builtin .append, args := #[s, x], argTypes := #[t, t] })
    (base : Nat) (e : TypeId) (i : TypeInfo) (z : Value) (size bytes : Nat) (ht : P.underlying t = some (.slice e)) (hi : P.info? e = some i) (hz : i.zero = some z)
    (hsize : i.size = size) (hby : i.bytes = bytes) (hzs : z.cells.size = size) (hsz : 0 < size)
    (v : Value) (n : Nat) (xs : List Value) (hs : a.eval s = v) (hown : w.ownsRow base e size v n xs)
    (ad : Addr) (m c : Nat) (news : List Value) (hx : a.eval x = .slice (some ad) m c) (hl : news.length = m * size) (hnews : ∀ j u, news[j]? = some u → w.cell? (ad.add j) = some u) (h1 : ∀ u ∈ news, u.oneCell' = true)
    (h63 : n + m ≤ maxLen) (hbytes : (n + m) * bytes ≤ 140737488355328) (hbase : base ≤ w.heap.size)
    (h : ∀ v' w', w'.ownsRow base e size v' (n + m) (xs ++ news) → w.grownBy w' v.ownBlock → (v' = .slice none 0 0 ↔ v = .slice none 0 0 ∧ m = 0) → K (a.put o.dst v') w') :
    if Region.wanted o (yielded ops a.tmps) = true then Oper.wp P o a w K Q else E := by
  have hw : Region.wanted o (yielded ops a.tmps) = true := by simp [Region.wanted, hgd]
  rw [if_pos hw]
  exact wp_append_own w s x t ho base e i z size bytes ht hi hz hsize hby hzs hsz v n xs hs hown ad m c news hx hl hnews h1 h63 hbytes hbase h

theorem res25 {W : World} {b : Nat} {c : Int} {v0 v1 v2 v3 v4 v5 v6 : Value} {tmps : Array Value} (h : W.heap[b]? = some (.cells #[v0, v1, v2, v3, v4, v5, v6] 35 (0, 0)))
    (h2 : tmps[4]? = some (.pointer (some ⟨b, 0, none⟩))) (h3 : tmps[5]? = some (.int .i64 c)) :
    (results Try.f25 tmps).run Try.prog W = .ok (.tuple #[.agg #[v0, v1, v2, v3, v4, v5, v6], .int .i64 c]) W := by
  obtain ⟨k0, k1, k2, k3, k4, k5, k6⟩ := cells7 h
  simp [results, Try.results25, go_sem, h2, h3, k0, k1, k2, k3, k4, k5, k6]

set_option maxHeartbeats 8000000 in
set_option maxRecDepth 100000 in
theorem rwithout_any (m : Man) (sv : Value) (name : ByteArray) (w : World) (hf : Fits m) (hS : SnapsAt w sv m.snaps) (hcap : CapOk sv m.snaps.length) (hm : m.snaps.length ≤ 1000) :
    Calls Try.prog 25 #[m.val sv, .string name] w (ManPost (withoutM m name) w) := by
  have HC : Hid (∀ W, SnapsAt W sv m.snaps → Calls Try.prog 16 #[m.val sv] W fun e w' => e = .returned (.int .i64 (chk m)) ∧ Below W.heap.size W w') := fun W hW => rcheck_any m sv W hf hW
  have HPL : Hid (∀ W, SnapsAt W sv m.snaps → Calls Try.prog 53 #[m.val sv, .string name] W fun e w' => e = .returned (.int .i64 (fndI m.snaps name)) ∧ Below W.heap.size W w') := fun W hW => find_any m sv name W hW (by omega)
  have HBAD : Hid (∀ c, chk m = c → c ≠ 0 → withoutM m name = (Man.zero, c)) := fun c hc h => by unfold withoutM; rw [hc, if_pos h]
  have HNO : Hid (chk m = 0 → fnd m.snaps name = none → withoutM m name = (Man.zero, 15)) := fun hc h => by unfold withoutM; rw [hc, if_neg (by simp), h]
  have HC2 : Hid (∀ i sq W, SnapsAt W sq (less m.snaps i) → Calls Try.prog 16 #[(m.with (less m.snaps i)).up.val sq] W fun e w' => e = .returned (.int .i64 (chk (m.with (less m.snaps i)).up)) ∧ Below W.heap.size W w') := fun i sq W hW => rcheck_any (m.with (less m.snaps i)).up sq W (less_fits hf) hW
  have HBAD2 : Hid (∀ i c, chk m = 0 → fnd m.snaps name = some i → chk (m.with (less m.snaps i)).up = c → c ≠ 0 → withoutM m name = (Man.zero, c)) := fun i c hc hi hc2 h => by
    unfold withoutM
    rw [hc, if_neg (by simp), hi]
    show turned _ = _
    unfold turned
    rw [hc2, if_neg h]
  have HGOOD : Hid (∀ i, chk m = 0 → fnd m.snaps name = some i → chk (m.with (less m.snaps i)).up = 0 → withoutM m name = ((m.with (less m.snaps i)).up, 0)) := fun i hc hi hc2 => by
    unfold withoutM
    rw [hc, if_neg (by simp), hi]
    show turned _ = _
    unfold turned
    rw [hc2, if_pos rfl]
  have HSER : Hid (chk m = 0 → 0 ≤ m.serial ∧ m.serial < 1099511627776) := fun hc => (chk_good hc).serial
  generalize withoutM m name = WM at *
  obtain ⟨c, hc⟩ : ∃ c, chk m = c := ⟨_, rfl⟩
  rw [hc] at HC HBAD HNO HBAD2 HGOOD HSER
  clear hc
  obtain ⟨v, key, serial, size, bv, bs, ms⟩ := m
  simp only [Man.val, Man.with, Man.up] at *
  have HSS := Lib.hid hS
  obtain ⟨sa, scap, rfl, hnone, hcl, hcm⟩ := hcap
  obtain ⟨W1, hW1⟩ : ∃ W0, W0 = (w.alloc (.cells #[.string v, .int .u64 key, .int .i64 serial, .int .i64 size, .string bv, .int .i64 bs, .slice sa ms.length scap] 35)).alloc (.cells #[.string ⟨#[]⟩, .int .u64 0, .int .i64 0, .int .i64 0, .string ⟨#[]⟩, .int .i64 0, .slice none 0 0] 35) := ⟨_, rfl⟩
  obtain ⟨hA1, hR1, hb1, hz1⟩ := two_new w #[.string v, .int .u64 key, .int .i64 serial, .int .i64 size, .string bv, .int .i64 bs, .slice sa ms.length scap] #[.string ⟨#[]⟩, .int .u64 0, .int .i64 0, .int .i64 0, .string ⟨#[]⟩, .int .i64 0, .slice none 0 0] 35 35
  rw [← hW1] at hA1 hR1 hb1 hz1
  have HW1 := Lib.hid hW1
  have HA1 := Lib.hid hA1
  have HR1 := Lib.hid hR1
  have HBL1 := Lib.hid hb1
  have HS1 := Lib.hid (Snaps_later hb1 HSS.out)
  have HZ1 := Lib.hid hz1
  have HCM := Lib.hid hcm
  obtain ⟨i0, hi, hy0, hy1, hy2⟩ := info_parts Try.info81
  clear hW1 hA1 hR1 hb1 hz1 hf hnone hcm hS
  go_enter Try.func25, Try.ntmps25
  go_wp2_with fail
  rw [← HW1.out]
  refine (HC.out W1 HS1.out).mono ?_
  rintro e w2 ⟨rfl, hb2⟩
  have hA2 := later hb2 HA1.out
  have hR2 := later hb2 HR1.out
  have hbl2 := below_on HBL1.out hb2
  have hz2 := hb2.size
  rw [HZ1.out] at hz2
  have hS2 := Snaps_later hb2 HS1.out
  have HA2 := Lib.hid hA2
  have HR2 := Lib.hid hR2
  have HBL2 := Lib.hid hbl2
  have HS2 := Lib.hid hS2
  by_cases h0 : c = 0
  · subst h0
    obtain ⟨x0, x1, x2, x3, x4, x5, x6⟩ := cells7 hA2
    clear hA2 hR2 hb2 hbl2 hS2
    have HPL2 := HPL.out w2 HS2.out
    obtain ⟨hs0, hs1⟩ := HSER.out rfl
    cases hfn : fnd ms name with
    | none =>
      rw [fndI_none hfn] at HPL2
      have HPL2 := Lib.hid HPL2
      have HFN := Lib.hid hfn
      clear hfn
      go_wp2_with fail
      refine HPL2.out.mono ?_
      rintro e w3 ⟨rfl, hb3⟩
      have hR3 := later hb3 HR2.out
      have hbl3 := below_on HBL2.out hb3
      obtain ⟨y0, y1, y2, y3, y4, y5, y6⟩ := cells7 hR3
      have fb := frozen_of_heap hR3
      have HR3 := Lib.hid hR3
      have HB3 := Lib.hid hbl3
      clear hR3 hbl3 hb3
      go_wp2
      obtain ⟨g1, g2⟩ := seven HR3.out (.string ⟨#[]⟩) (.int .u64 0) (.int .i64 0) (.int .i64 0) (.string ⟨#[]⟩) (.int .i64 0) (.slice none 0 0)
      refine leaveB (res25 g1 rfl rfl) ?_
      rw [HNO.out True.intro HFN.out]
      exact ⟨_, rfl, snaps_nil _, below_seven HB3.out (w.heap.size + 1) (by omega) _ _ _ _ _ _ _⟩
    | some i =>
      rw [fndI_some hfn] at HPL2
      have HPL2 := Lib.hid HPL2
      have hil := fnd_lt hfn
      have HFN := Lib.hid hfn
      clear hfn
      obtain ⟨b, off, hsa⟩ : ∃ b off, sa = some ⟨b, off, none⟩ := by
        obtain ⟨_, _, e, hc⟩ := HSS.out
        obtain ⟨b, off, ha, _⟩ := hc i hil
        injection e with e1
        exact ⟨b, off, e1.trans ha⟩
      subst hsa
      go_wp2_with fail
      refine HPL2.out.mono ?_
      rintro e w3 ⟨rfl, hb3⟩
      have hA3 := later hb3 HA2.out
      have hR3 := later hb3 HR2.out
      have hbl3 := below_on HBL2.out hb3
      have hS3 := Snaps_later hb3 HS2.out
      have hz3 := hb3.size
      obtain ⟨y0, y1, y2, y3, y4, y5, y6⟩ := cells7 hA3
      have q2 := (cells7 (later (one_new w3 #[.string v, .int .u64 key, .int .i64 serial, .int .i64 size, .string bv, .int .i64 bs, .slice (some ⟨b, off, none⟩) ms.length scap] 35).2.1 hA3)).2.2.1
      obtain ⟨w4, hw4⟩ : ∃ W, W = w3.alloc (.cells #[.string v, .int .u64 key, .int .i64 (serial + 1), .int .i64 size, .string bv, .int .i64 bs, .slice (some ⟨b, off, none⟩) ms.length scap] 35) := ⟨_, rfl⟩
      obtain ⟨hO4, hb4, hz4⟩ := one_new w3 #[.string v, .int .u64 key, .int .i64 (serial + 1), .int .i64 size, .string bv, .int .i64 bs, .slice (some ⟨b, off, none⟩) ms.length scap] 35
      obtain ⟨O, hO⟩ : ∃ O, O = w3.heap.size := ⟨_, rfl⟩
      rw [← hw4, ← hO] at hO4 hz4
      rw [← hw4] at hb4
      have hR4 := later hb4 hR3
      have hA4 := later hb4 hA3
      have hbl4 := below_on hbl3 hb4
      have hS4 := Snaps_later hb4 hS3
      have hOA : w.heap.size + 2 ≤ O := by rw [hO]; omega
      have HW4 := Lib.hid hw4
      have HO := Lib.hid hO
      have HO4 := Lib.hid hO4
      have HR4 := Lib.hid hR4
      have HA4 := Lib.hid hA4
      have HB4 := Lib.hid hbl4
      have HS4 := Lib.hid hS4
      have HZ4 := Lib.hid hz4
      clear hA3 hR3 hbl3 hS3 hb3 x0 x1 x2 x3 x4 x5 x6 hw4 hO hO4 hb4 hR4 hA4 hbl4 hS4
      go_upto_region 9 with (fail)
      rw [← HO.out, ← HW4.out]
      clear y0 y1 y2 y3 y4 y5 y6 q2
      obtain ⟨x0, x1, x2, x3, x4, x5, x6⟩ := cells7 HA4.out
      have hi0 : (0 : Int) ≤ (i : Int) := Int.natCast_nonneg _
      have hi1 : (i : Int) < (ms.length : Int) := by omega
      have hi2 : (i : Int) ≤ (scap : Int) := by omega
      have hi3 : ((i : Int) + 1) ≤ (scap : Int) := by omega
      have hi4 : ((i : Int) + 1) ≤ (ms.length : Int) := by omega
      have hi5 : (0 : Int) ≤ (i : Int) + 1 := by omega
      have hmi : scap ≤ 9223372036854775807 := by have := HCM.out; unfold maxLen at this; omega
      have hw1 : IntKind.i64.wrap ((i : Int) + 1) = (i : Int) + 1 := IntWalk.i64_in _ (by omega)
      have hn1 : ((i : Int) + 1).toNat = i + 1 := by omega
      have et : (ms.take i).length = i := by rw [List.length_take]; omega
      have ed : (ms.drop (i + 1)).length = ms.length - (i + 1) := List.length_drop
      by_cases hcj : scap = i + 1
      · subst hcj
        have hi6 : (i : Int) ≤ (i : Int) + 1 := by omega
        have hi7 : (i : Int) ≤ ((i + 1 : Nat) : Int) := by omega
        have HOW0 : Hid ((w4.alloc (.cells #[] 81)).drew.ownsRow (O + 1) 81 3 (.slice (some ⟨O + 1, 0, none⟩) 0 0) 0 []) := by
          have h := World.ownsRow_made (base := O + 1) (e := 81) (size := 3) w4 #[] 0 (by omega) (by unfold maxLen; omega) rfl
          rw [hz4] at h
          exact own_keeps h (fun _ _ => rfl)
        have HL1 : Hid ((rowVals (ms.take i)).length = i * 3) := by show (rowVals (ms.take i)).length = i * 3; rw [rowVals_length, et]
        have HL2 : Hid ((rowVals (ms.drop (i + 1))).length = 0 * 3) := by show (rowVals (ms.drop (i + 1))).length = _; rw [rowVals_length, ed]; omega
        have HN1 : Hid (∀ W, Below w4.heap.size w4 W → ∀ j u, (rowVals (ms.take i))[j]? = some u → W.cell? ((⟨b, off, none⟩ : Addr).add j) = some u) := fun W hW => news_take (Snaps_later hW HS4.out) i
        have HN2 : Hid (∀ W, Below w4.heap.size w4 W → ∀ j u, (rowVals (ms.drop (i + 1)))[j]? = some u → W.cell? ((⟨b, off, none⟩ : Addr).add j) = some u) := fun W hW => fun j u h => by
          have hz : ms.drop (i + 1) = [] := List.drop_eq_nil_of_le (by omega)
          rw [hz] at h; simp [rowVals] at h
        have HO1 := Lib.hid (rowVals_one (ms.take i))
        have HO2 := Lib.hid (rowVals_one (ms.drop (i + 1)))
        have HCAT : Hid (rowVals (ms.take i) ++ rowVals (ms.drop (i + 1)) = rowVals (less ms i)) := by show _ ++ _ = _; unfold less; rw [rowVals_append]
        have HLEN : Hid (i = (less ms i).length) := by show i = _; unfold less; rw [List.length_append, et, ed]; omega
        have hbA : Below w4.heap.size w4 (w4.alloc (.cells #[] 81)).drew := (one_new w4 #[] 81).2.1.drew
        have HBA := Lib.hid hbA
        have hmx1 : 0 + i ≤ maxLen := by unfold maxLen; omega
        have hmx2 : i + 0 ≤ maxLen := by unfold maxLen; omega
        have HM1 := Lib.hid hmx1
        have HM2 := Lib.hid hmx2
        clear et ed hbA hmx1 hmx2
        have tok1 : True := trivial
        go_region_held3 (fun w' => w'.cell? ⟨w.heap.size, 6, none⟩ = some (.slice (some ⟨b, off, none⟩) ms.length (i + 1)))
          (first | assumption | go_keep)
          ((first
            | (have _t := tok1; refine step_own _ (by rfl) _ _ _ (by rfl) (O + 1) 81 i0 _ 3 32 Try.underlying33 hi hy0 hy1 hy2 rfl (by omega) _ 0 [] (by rfl) HOW0.out ⟨b, off, none⟩ i (i + 1) (rowVals (ms.take i)) (by rfl) HL1.out (HN1.out _ HBA.out) HO1.out HM1.out (by omega) (by simp; omega) ?_; intro v5 w5 hown5 hgrow5 _
               obtain ⟨va5, vc5, rfl⟩ := owns_slice hown5
               have hrow5 : w5.ownsRow (O + 1) 81 3 (.slice va5 (0 + i) vc5) (0 + i) (rowVals (ms.take i)) := hown5
               have hb5 : Below w4.heap.size w4 w5 := (HBA.out).grown hgrow5 (HBA.out.size) (fun q hq => by rw [HZ4.out]; exact Nat.le_of_eq (Option.some.inj hq))
               have hs5 : w5.cell? ⟨w.heap.size, 6, none⟩ = some (.slice (some ⟨b, off, none⟩) ms.length (i + 1)) := (cells7 (later hb5 HA4.out)).2.2.2.2.2.2
               have HOW5 := Lib.hid hrow5
               have HB5 := Lib.hid hb5
               clear tok1 hown5 hgrow5 hrow5 hb5)
            | (refine step_own _ (by rfl) _ _ _ (by rfl) (O + 1) 81 i0 _ 3 32 Try.underlying33 hi hy0 hy1 hy2 rfl (by omega) _ (0 + i) (rowVals (ms.take i)) (by rfl) HOW5.out (⟨b, off, none⟩ : Addr) 0 0 (rowVals (ms.drop (i + 1))) (by rfl) HL2.out (HN2.out _ HB5.out) HO2.out (by rw [Nat.zero_add]; exact HM2.out) (by omega) (by have := HB5.out.size; omega) ?_; intro v6 w6 hown6 hgrow6 _
               rw [HCAT.out, Nat.zero_add, Nat.add_zero] at hown6
               obtain ⟨va6, vc6, rfl⟩ := owns_slice hown6
               have hb6 : Below w4.heap.size w4 w6 := (HB5.out).grown hgrow6 (HB5.out.size) (fun q hq => by rw [HZ4.out]; exact (HOW5.out.lt q hq).1)
               have hs6 : w6.cell? ⟨w.heap.size, 6, none⟩ = some (.slice (some ⟨b, off, none⟩) ms.length (i + 1)) := (cells7 (later hb6 HA4.out)).2.2.2.2.2.2
               have ho6 := (cells7 (later hb6 HO4.out)).2.2.2.2.2.2
               have fo6 := frozen_of_heap (later hb6 HO4.out)
               have hs7 : (w6.setCell ⟨O, 6, none⟩ (.slice va6 i vc6)).cell? ⟨w.heap.size, 6, none⟩ = some (.slice (some ⟨b, off, none⟩) ms.length (i + 1)) := (World.cell?_setCell_other _ _ _ _ (fun e => by have e1 : O = w.heap.size := congrArg Addr.block e; omega)).trans hs6
               have HOW6 := Lib.hid hown6
               have HB6 := Lib.hid hb6
               clear hown6 hgrow6 hb6)))
        have key : ∀ n, n = (less ms i).length → w6.ownsRow (O + 1) 81 3 (.slice va6 n vc6) n (rowVals (less ms i)) → SnapsAt w6 (.slice va6 n vc6) (less ms i) := fun n hn h => by subst hn; exact snaps_of_rowE h
        have hS6 := key _ HLEN.out HOW6.out
        have hneO : (Value.slice va6 (i) vc6).ownBlock ≠ some O := fun e => by have := (HOW6.out.lt _ e).1; omega
        have hneR : (Value.slice va6 (i) vc6).ownBlock ≠ some (w.heap.size + 1) := fun e => by have := (HOW6.out.lt _ e).1; omega
        have hK7 : KeepsBut (fun k => k = O) w6 (w6.setCell ⟨O, 6, none⟩ (.slice va6 (i) vc6)) := KeepsBut.setCell (p := ⟨O, 6, none⟩) w6 (X := fun k => k = O) rfl _
        have hO7 := heap_setCell_same w6 O 6 _ 35 (.slice va6 (i) vc6) (later HB6.out HO4.out)
        have hR7 := keeps_at hK7 (later HB6.out HR4.out) (by omega)
        have hbl6 := below_on HB4.out HB6.out
        have hbl7 : Below w.heap.size w (w6.setCell ⟨O, 6, none⟩ (.slice va6 (i) vc6)) := hbl6.trans (hK7.below (fun k e => by omega) hbl6.size)
        have hS7 := Snaps_own hS6 hK7 hneO
        have hz7 := hK7.size
        have HO7 := Lib.hid hO7
        have HR7 := Lib.hid hR7
        have HB7 := Lib.hid hbl7
        have HS7 := Lib.hid hS7
        have HNR := Lib.hid hneR
        have hz6 := HB6.out.size
        clear key hS6 hneO hneR hK7 hO7 hR7 hbl6 hbl7 hS7 hs5 hs6 ho6 fo6 hs7 x0 x1 x2 x3 x4 x5 x6
        go_upto_region 10 with (fail)
        generalize (w6.setCell ⟨O, 6, none⟩ (.slice va6 (i) vc6)) = w7 at *
        obtain ⟨c2, hc2⟩ : ∃ c2, chk ⟨v, key, serial + 1, size, bv, bs, less ms i⟩ = c2 := ⟨_, rfl⟩
        have HCHK := HC2.out i (.slice va6 (i) vc6) w7 HS7.out
        rw [hc2] at HCHK
        have HCHK := Lib.hid HCHK
        have HCC2 := Lib.hid hc2
        obtain ⟨x0, x1, x2, x3, x4, x5, x6⟩ := cells7 HO7.out
        clear hc2
        go_wp2_with fail
        refine HCHK.out.mono ?_
        rintro e w8 ⟨rfl, hb8⟩
        have hO8 := later hb8 HO7.out
        have hR8 := later hb8 HR7.out
        have hS8 := Snaps_later hb8 HS7.out
        have hbl8 := below_on HB7.out hb8
        have fb := frozen_of_heap hR8
        obtain ⟨q0, q1, q2, q3, q4, q5, q6⟩ := cells7 hR8
        obtain ⟨y0, y1, y2, y3, y4, y5, y6⟩ := cells7 hO8
        have HR8 := Lib.hid hR8
        have HB8 := Lib.hid hbl8
        have HS8 := Lib.hid hS8
        clear hR8 hbl8 hb8 hO8 hS8 x0 x1 x2 x3 x4 x5 x6
        by_cases h2 : c2 = 0
        · subst h2
          go_wp2
          obtain ⟨g1, g2⟩ := seven HR8.out (.string v) (.int .u64 key) (.int .i64 (serial + 1)) (.int .i64 size) (.string bv) (.int .i64 bs) (.slice va6 (i) vc6)
          refine leaveB (res25 g1 rfl rfl) ?_
          have hb := below_seven HB8.out (w.heap.size + 1) (by omega) (.string v) (.int .u64 key) (.int .i64 (serial + 1)) (.int .i64 size) (.string bv) (.int .i64 bs) (.slice va6 (i) vc6)
          rw [HGOOD.out i True.intro HFN.out HCC2.out]
          exact ⟨_, rfl, Snaps_own HS8.out g2 HNR.out, hb⟩
        · have hcf : (c2 != 0) = true := by simp [h2]
          go_wp2
          obtain ⟨g1, g2⟩ := seven HR8.out (.string ⟨#[]⟩) (.int .u64 0) (.int .i64 0) (.int .i64 0) (.string ⟨#[]⟩) (.int .i64 0) (.slice none 0 0)
          refine leaveB (res25 g1 rfl rfl) ?_
          rw [HBAD2.out i c2 True.intro HFN.out HCC2.out h2]
          exact ⟨_, rfl, snaps_nil _, below_seven HB8.out (w.heap.size + 1) (by omega) _ _ _ _ _ _ _⟩
      · have HOW0 : Hid ((w4.alloc (.cells #[] 81)).drew.ownsRow (O + 1) 81 3 (.slice (some ⟨O + 1, 0, none⟩) 0 0) 0 []) := by
          have h := World.ownsRow_made (base := O + 1) (e := 81) (size := 3) w4 #[] 0 (by omega) (by unfold maxLen; omega) rfl
          rw [hz4] at h
          exact own_keeps h (fun _ _ => rfl)
        have HL1 : Hid ((rowVals (ms.take i)).length = i * 3) := by show (rowVals (ms.take i)).length = i * 3; rw [rowVals_length, et]
        have HL2 : Hid ((rowVals (ms.drop (i + 1))).length = (ms.length - (i + 1)) * 3) := by show (rowVals (ms.drop (i + 1))).length = _; rw [rowVals_length, ed]
        have HN1 : Hid (∀ W, Below w4.heap.size w4 W → ∀ j u, (rowVals (ms.take i))[j]? = some u → W.cell? ((⟨b, off, none⟩ : Addr).add j) = some u) := fun W hW => news_take (Snaps_later hW HS4.out) i
        have HN2 : Hid (∀ W, Below w4.heap.size w4 W → ∀ j u, (rowVals (ms.drop (i + 1)))[j]? = some u → W.cell? ((⟨b, off + (i + 1) * 3, none⟩ : Addr).add j) = some u) := fun W hW => by
          have h := news_drop (Snaps_later hW HS4.out) (i + 1) (by omega)
          rw [WideShapes.add_plain] at h
          exact h
        have HO1 := Lib.hid (rowVals_one (ms.take i))
        have HO2 := Lib.hid (rowVals_one (ms.drop (i + 1)))
        have HCAT : Hid (rowVals (ms.take i) ++ rowVals (ms.drop (i + 1)) = rowVals (less ms i)) := by show _ ++ _ = _; unfold less; rw [rowVals_append]
        have HLEN : Hid (i + (ms.length - (i + 1)) = (less ms i).length) := by show i + _ = _; unfold less; rw [List.length_append, et, ed]
        have hbA : Below w4.heap.size w4 (w4.alloc (.cells #[] 81)).drew := (one_new w4 #[] 81).2.1.drew
        have HBA := Lib.hid hbA
        have hmx1 : 0 + i ≤ maxLen := by unfold maxLen; omega
        have hmx2 : i + (ms.length - (i + 1)) ≤ maxLen := by unfold maxLen; omega
        have HM1 := Lib.hid hmx1
        have HM2 := Lib.hid hmx2
        clear et ed hbA hmx1 hmx2
        have tok1 : True := trivial
        go_region_held3 (fun w' => w'.cell? ⟨w.heap.size, 6, none⟩ = some (.slice (some ⟨b, off, none⟩) ms.length scap))
          (first | assumption | go_keep)
          ((first
            | (have _t := tok1; refine step_own _ (by rfl) _ _ _ (by rfl) (O + 1) 81 i0 _ 3 32 Try.underlying33 hi hy0 hy1 hy2 rfl (by omega) _ 0 [] (by rfl) HOW0.out ⟨b, off, none⟩ i scap (rowVals (ms.take i)) (by rfl) HL1.out (HN1.out _ HBA.out) HO1.out HM1.out (by omega) (by simp; omega) ?_; intro v5 w5 hown5 hgrow5 _
               obtain ⟨va5, vc5, rfl⟩ := owns_slice hown5
               have hrow5 : w5.ownsRow (O + 1) 81 3 (.slice va5 (0 + i) vc5) (0 + i) (rowVals (ms.take i)) := hown5
               have hb5 : Below w4.heap.size w4 w5 := (HBA.out).grown hgrow5 (HBA.out.size) (fun q hq => by rw [HZ4.out]; exact Nat.le_of_eq (Option.some.inj hq))
               have hs5 : w5.cell? ⟨w.heap.size, 6, none⟩ = some (.slice (some ⟨b, off, none⟩) ms.length scap) := (cells7 (later hb5 HA4.out)).2.2.2.2.2.2
               have HOW5 := Lib.hid hrow5
               have HB5 := Lib.hid hb5
               clear tok1 hown5 hgrow5 hrow5 hb5)
            | (refine step_own _ (by rfl) _ _ _ (by rfl) (O + 1) 81 i0 _ 3 32 Try.underlying33 hi hy0 hy1 hy2 rfl (by omega) _ (0 + i) (rowVals (ms.take i)) (by rfl) HOW5.out (⟨b, off + (i + 1) * 3, none⟩ : Addr) (ms.length - (i + 1)) (scap - (i + 1)) (rowVals (ms.drop (i + 1))) (by rfl) HL2.out (HN2.out _ HB5.out) HO2.out (by rw [Nat.zero_add]; exact HM2.out) (by omega) (by have := HB5.out.size; omega) ?_; intro v6 w6 hown6 hgrow6 _
               rw [HCAT.out, Nat.zero_add] at hown6
               obtain ⟨va6, vc6, rfl⟩ := owns_slice hown6
               have hb6 : Below w4.heap.size w4 w6 := (HB5.out).grown hgrow6 (HB5.out.size) (fun q hq => by rw [HZ4.out]; exact (HOW5.out.lt q hq).1)
               have hs6 : w6.cell? ⟨w.heap.size, 6, none⟩ = some (.slice (some ⟨b, off, none⟩) ms.length scap) := (cells7 (later hb6 HA4.out)).2.2.2.2.2.2
               have ho6 := (cells7 (later hb6 HO4.out)).2.2.2.2.2.2
               have fo6 := frozen_of_heap (later hb6 HO4.out)
               have hs7 : (w6.setCell ⟨O, 6, none⟩ (.slice va6 (i + (ms.length - (i + 1))) vc6)).cell? ⟨w.heap.size, 6, none⟩ = some (.slice (some ⟨b, off, none⟩) ms.length scap) := (World.cell?_setCell_other _ _ _ _ (fun e => by have e1 : O = w.heap.size := congrArg Addr.block e; omega)).trans hs6
               have HOW6 := Lib.hid hown6
               have HB6 := Lib.hid hb6
               clear hown6 hgrow6 hb6)))
        have key : ∀ n, n = (less ms i).length → w6.ownsRow (O + 1) 81 3 (.slice va6 n vc6) n (rowVals (less ms i)) → SnapsAt w6 (.slice va6 n vc6) (less ms i) := fun n hn h => by subst hn; exact snaps_of_rowE h
        have hS6 := key _ HLEN.out HOW6.out
        have hneO : (Value.slice va6 (i + (ms.length - (i + 1))) vc6).ownBlock ≠ some O := fun e => by have := (HOW6.out.lt _ e).1; omega
        have hneR : (Value.slice va6 (i + (ms.length - (i + 1))) vc6).ownBlock ≠ some (w.heap.size + 1) := fun e => by have := (HOW6.out.lt _ e).1; omega
        have hK7 : KeepsBut (fun k => k = O) w6 (w6.setCell ⟨O, 6, none⟩ (.slice va6 (i + (ms.length - (i + 1))) vc6)) := KeepsBut.setCell (p := ⟨O, 6, none⟩) w6 (X := fun k => k = O) rfl _
        have hO7 := heap_setCell_same w6 O 6 _ 35 (.slice va6 (i + (ms.length - (i + 1))) vc6) (later HB6.out HO4.out)
        have hR7 := keeps_at hK7 (later HB6.out HR4.out) (by omega)
        have hbl6 := below_on HB4.out HB6.out
        have hbl7 : Below w.heap.size w (w6.setCell ⟨O, 6, none⟩ (.slice va6 (i + (ms.length - (i + 1))) vc6)) := hbl6.trans (hK7.below (fun k e => by omega) hbl6.size)
        have hS7 := Snaps_own hS6 hK7 hneO
        have hz7 := hK7.size
        have HO7 := Lib.hid hO7
        have HR7 := Lib.hid hR7
        have HB7 := Lib.hid hbl7
        have HS7 := Lib.hid hS7
        have HNR := Lib.hid hneR
        have hz6 := HB6.out.size
        clear key hS6 hneO hneR hK7 hO7 hR7 hbl6 hbl7 hS7 hs5 hs6 ho6 fo6 hs7 x0 x1 x2 x3 x4 x5 x6
        go_upto_region 10 with (fail)
        generalize (w6.setCell ⟨O, 6, none⟩ (.slice va6 (i + (ms.length - (i + 1))) vc6)) = w7 at *
        obtain ⟨c2, hc2⟩ : ∃ c2, chk ⟨v, key, serial + 1, size, bv, bs, less ms i⟩ = c2 := ⟨_, rfl⟩
        have HCHK := HC2.out i (.slice va6 (i + (ms.length - (i + 1))) vc6) w7 HS7.out
        rw [hc2] at HCHK
        have HCHK := Lib.hid HCHK
        have HCC2 := Lib.hid hc2
        obtain ⟨x0, x1, x2, x3, x4, x5, x6⟩ := cells7 HO7.out
        clear hc2
        go_wp2_with fail
        refine HCHK.out.mono ?_
        rintro e w8 ⟨rfl, hb8⟩
        have hO8 := later hb8 HO7.out
        have hR8 := later hb8 HR7.out
        have hS8 := Snaps_later hb8 HS7.out
        have hbl8 := below_on HB7.out hb8
        have fb := frozen_of_heap hR8
        obtain ⟨q0, q1, q2, q3, q4, q5, q6⟩ := cells7 hR8
        obtain ⟨y0, y1, y2, y3, y4, y5, y6⟩ := cells7 hO8
        have HR8 := Lib.hid hR8
        have HB8 := Lib.hid hbl8
        have HS8 := Lib.hid hS8
        clear hR8 hbl8 hb8 hO8 hS8 x0 x1 x2 x3 x4 x5 x6
        by_cases h2 : c2 = 0
        · subst h2
          go_wp2
          obtain ⟨g1, g2⟩ := seven HR8.out (.string v) (.int .u64 key) (.int .i64 (serial + 1)) (.int .i64 size) (.string bv) (.int .i64 bs) (.slice va6 (i + (ms.length - (i + 1))) vc6)
          refine leaveB (res25 g1 rfl rfl) ?_
          have hb := below_seven HB8.out (w.heap.size + 1) (by omega) (.string v) (.int .u64 key) (.int .i64 (serial + 1)) (.int .i64 size) (.string bv) (.int .i64 bs) (.slice va6 (i + (ms.length - (i + 1))) vc6)
          rw [HGOOD.out i True.intro HFN.out HCC2.out]
          exact ⟨_, rfl, Snaps_own HS8.out g2 HNR.out, hb⟩
        · have hcf : (c2 != 0) = true := by simp [h2]
          go_wp2
          obtain ⟨g1, g2⟩ := seven HR8.out (.string ⟨#[]⟩) (.int .u64 0) (.int .i64 0) (.int .i64 0) (.string ⟨#[]⟩) (.int .i64 0) (.slice none 0 0)
          refine leaveB (res25 g1 rfl rfl) ?_
          rw [HBAD2.out i c2 True.intro HFN.out HCC2.out h2]
          exact ⟨_, rfl, snaps_nil _, below_seven HB8.out (w.heap.size + 1) (by omega) _ _ _ _ _ _ _⟩
  · have hcf : (c != 0) = true := by simp [h0]
    obtain ⟨y0, y1, y2, y3, y4, y5, y6⟩ := cells7 hR2
    have fb := frozen_of_heap hR2
    clear hA2 hR2 hb2 hbl2 hS2
    go_wp2
    obtain ⟨g1, g2⟩ := seven HR2.out (.string ⟨#[]⟩) (.int .u64 0) (.int .i64 0) (.int .i64 0) (.string ⟨#[]⟩) (.int .i64 0) (.slice none 0 0)
    refine leaveB (res25 g1 rfl rfl) ?_
    rw [HBAD.out c rfl h0]
    exact ⟨_, rfl, snaps_nil _, below_seven HBL2.out (w.heap.size + 1) (by omega) _ _ _ _ _ _ _⟩
end Go.Proofs.Ytmkcphelmgkipaa
