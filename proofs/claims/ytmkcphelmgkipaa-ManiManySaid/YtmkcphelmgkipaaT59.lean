import Derived.Test.YtmkcphelmgkipaaT58
import Derived.Deep.RegionHeld3
import Derived.Deep.AppendLies
import Derived.Deep.CutRange
import Derived.Deep.CutBlock
set_option linter.unusedVariables false
set_option linter.unusedSimpArgs false
namespace Go.Proofs.Ytmkcphelmgkipaa
open Go.RowKit
attribute [local go_sem ↓] Go.wp_at_zero Go.wp_at_succ

theorem res20 {W : World} {b : Nat} {c : Int} {v0 v1 v2 v3 v4 v5 v6 : Value} {tmps : Array Value} (h : W.heap[b]? = some (.cells #[v0, v1, v2, v3, v4, v5, v6] 35 (0, 0)))
    (h2 : tmps[4]? = some (.pointer (some ⟨b, 0, none⟩))) (h3 : tmps[5]? = some (.int .i64 c)) :
    (results Try.f20 tmps).run Try.prog W = .ok (.tuple #[.agg #[v0, v1, v2, v3, v4, v5, v6], .int .i64 c]) W := by
  obtain ⟨k0, k1, k2, k3, k4, k5, k6⟩ := cells7 h
  simp [results, Try.results20, go_sem, h2, h3, k0, k1, k2, k3, k4, k5, k6]

theorem withL_step {s l : List Snp} {k : Nat} (hk : k < l.length) : withL s (l.drop k) = if (s.any (isN (l.getD k Snp.zero).name)) = true then none else withL (ins (l.getD k Snp.zero) s) (l.drop (k + 1)) := by
  rw [List.drop_eq_getElem_cons hk, List.getD_eq_getElem?_getD, List.getElem?_eq_getElem hk]
  rfl

theorem ins_at {x : Snp} {s : List Snp} {j : Nat} (hj : j ≤ s.length) (h : ∀ i, i < j → lessS (s.getD i Snp.zero) x = true) (he : j = s.length ∨ lessS (s.getD j Snp.zero) x = false) : ins x s = s.take j ++ x :: s.drop j := by
  induction s generalizing j with
  | nil => have : j = 0 := by simpa using hj
           subst this; rfl
  | cons y s ih =>
    cases j with
    | zero =>
      have hy : lessS y x = false := by
        rcases he with he | he
        · cases he
        · exact he
      unfold ins
      rw [List.takeWhile_cons_of_neg (p := fun y => lessS y x) (by rw [hy]; simp), List.dropWhile_cons_of_neg (p := fun y => lessS y x) (by rw [hy]; simp)]
      rfl
    | succ j =>
      have hy : lessS y x = true := h 0 (by omega)
      have := ih (j := j) (by simpa using hj) (fun i hi => h (i + 1) (by omega)) (by
        rcases he with he | he
        · left; simpa using he
        · right; exact he)
      unfold ins at this ⊢
      rw [List.takeWhile_cons_of_pos (p := fun y => lessS y x) hy, List.dropWhile_cons_of_pos (p := fun y => lessS y x) hy]
      show y :: (_ ++ _) = y :: (_ ++ _)
      rw [this]
      rfl

theorem snaps_block {w : World} {sv : Value} {l : List Snp} (h : SnapsAt w sv l) (n : Nat) (hn : w.heap.size ≤ n) : l = [] ∨ sv.ownBlock ≠ some n := by
  cases l with
  | nil => exact .inl rfl
  | cons x l =>
    obtain ⟨a, c, rfl, hc⟩ := h
    obtain ⟨b, off, rfl, h0, _⟩ := hc 0 (by simp)
    have : b < w.heap.size := World.block_lt_of_cell? _ _ h0
    right
    intro e
    injection e with e
    have : b = n := e
    omega

set_option maxHeartbeats 8000000 in
set_option maxRecDepth 100000 in
theorem rwith_any (m : Man) (sv : Value) (l : List Snp) (lv : Value) (w : World) (hf : Fits m) (hS : SnapsAt w sv m.snaps) (hcap : CapOk sv m.snaps.length) (hL : SnapsAt w lv l) (hm : m.snaps.length ≤ 1000) (hl : l.length ≤ 1000)
    (hlf : ∀ x ∈ l, x.name.size ≤ 140737488351232) :
    Calls Try.prog 20 #[m.val sv, lv] w (ManPost (withM m l) w) := by
  have HC : Hid (∀ W, SnapsAt W sv m.snaps → Calls Try.prog 16 #[m.val sv] W fun e w' => e = .returned (.int .i64 (chk m)) ∧ Below W.heap.size W w') := fun W hW => rcheck_any m sv W hf hW
  have HC2 : Hid (∀ W s sq, withL m.snaps l = some s → SnapsAt W sq s → Calls Try.prog 16 #[(m.with s).up.val sq] W fun e w' => e = .returned (.int .i64 (chk (m.with s).up)) ∧ Below W.heap.size W w') := fun W s sq hs hW => by
    refine rcheck_any (m.with s).up sq W ?_ hW
    cases ha : addL m.snaps l with
    | none => rw [((add_with l m.snaps m.snaps (List.Perm.refl _)).1).1 ha] at hs; cases hs
    | some a =>
      have hp := ((add_with l m.snaps m.snaps (List.Perm.refl _)).2 a s ha hs).symm
      rw [addL_eq _ _ _ ha] at hp
      exact with_fits hf hlf (by omega) hp
  have HBAD : Hid (∀ c, chk m = c → c ≠ 0 → withM m l = (Man.zero, c)) := fun c hc h => turned_zero c h m l hc
  have HDUP : Hid (chk m = 0 → withL m.snaps l = none → withM m l = (Man.zero, 16)) := fun hc h => by
    unfold withM
    rw [hc, if_neg (by simp), h]
  have HBAD2 : Hid (∀ s c, chk m = 0 → withL m.snaps l = some s → chk (m.with s).up = c → c ≠ 0 → withM m l = (Man.zero, c)) := fun s c hc hs hc2 h => by
    unfold withM
    rw [hc, if_neg (by simp), hs]
    show turned _ = _
    unfold turned
    rw [hc2, if_neg h]
  have HGOOD : Hid (∀ s, chk m = 0 → withL m.snaps l = some s → chk (m.with s).up = 0 → withM m l = ((m.with s).up, 0)) := fun s hc hs hc2 => by
    unfold withM
    rw [hc, if_neg (by simp), hs]
    show turned _ = _
    unfold turned
    rw [hc2, if_pos rfl]
  have HSER : Hid (chk m = 0 → 0 ≤ m.serial ∧ m.serial < 1099511627776) := fun hc => (chk_good hc).serial
  have HFIND : Hid (∀ s sq name W, SnapsAt W sq s → s.length ≤ 1000000 → Calls Try.prog 53 #[(m.with s).up.val sq, .string name] W fun e w' => e = .returned (.int .i64 (fndI s name)) ∧ Below W.heap.size W w') := fun s sq name W hW hs => find_any (m.with s).up sq name W hW hs
  generalize withM m l = WM at *
  obtain ⟨c, hc⟩ : ∃ c, chk m = c := ⟨_, rfl⟩
  rw [hc] at HC HBAD HDUP HBAD2 HGOOD HSER
  clear hc
  obtain ⟨v, key, serial, size, bv, bs, ms⟩ := m
  simp only [Man.val, Man.with, Man.up] at *
  have HSS := Lib.hid hS
  have HCAP := Lib.hid hcap
  have HLS := Lib.hid hL
  obtain ⟨sa, scap, rfl, _⟩ := hS
  obtain ⟨la, lcap, rfl, hlc⟩ := hL
  have HLC := Lib.hid hlc
  obtain ⟨W1, hW1⟩ : ∃ W0, W0 = (w.alloc (.cells #[.string v, .int .u64 key, .int .i64 serial, .int .i64 size, .string bv, .int .i64 bs, .slice sa ms.length scap] 35)).alloc (.cells #[.string ⟨#[]⟩, .int .u64 0, .int .i64 0, .int .i64 0, .string ⟨#[]⟩, .int .i64 0, .slice none 0 0] 35) := ⟨_, rfl⟩
  obtain ⟨hA1, hR1, hb1, hz1⟩ := two_new w #[.string v, .int .u64 key, .int .i64 serial, .int .i64 size, .string bv, .int .i64 bs, .slice sa ms.length scap] #[.string ⟨#[]⟩, .int .u64 0, .int .i64 0, .int .i64 0, .string ⟨#[]⟩, .int .i64 0, .slice none 0 0] 35 35
  rw [← hW1] at hA1 hR1 hb1 hz1
  have HW1 := Lib.hid hW1
  have HA1 := Lib.hid hA1
  have HR1 := Lib.hid hR1
  have HBL1 := Lib.hid hb1
  have HS1 := Lib.hid (Snaps_later hb1 HSS.out)
  have HZ1 := Lib.hid hz1
  obtain ⟨i0, hi, hy0, hy1, hy2⟩ := info_parts Try.info81
  clear hW1 hA1 hR1 hb1 hz1 hlc hf hlf hcap
  go_enter Try.func20, Try.ntmps20
  go_wp2_with fail
  rw [← HW1.out]
  refine (HC.out W1 HS1.out).mono ?_
  rintro e w2 ⟨rfl, hb2⟩
  have hA2 := later hb2 HA1.out
  have hR2 := later hb2 HR1.out
  have hbl2 := below_on HBL1.out hb2
  have hz2 := hb2.size
  rw [HZ1.out] at hz2
  have HA2 := Lib.hid hA2
  have HR2 := Lib.hid hR2
  have HBL2 := Lib.hid hbl2
  by_cases h0 : c = 0
  · subst h0
    obtain ⟨x0, x1, x2, x3, x4, x5, x6⟩ := cells7 hA2
    obtain ⟨hs0, hs1⟩ := HSER.out rfl
    obtain ⟨w3, hw3⟩ : ∃ W, W = w2.alloc (.cells #[.string v, .int .u64 key, .int .i64 (serial + 1), .int .i64 size, .string bv, .int .i64 bs, .slice sa ms.length scap] 35) := ⟨_, rfl⟩
    obtain ⟨hO3, hb3, hz3⟩ := one_new w2 #[.string v, .int .u64 key, .int .i64 (serial + 1), .int .i64 size, .string bv, .int .i64 bs, .slice sa ms.length scap] 35
    obtain ⟨O, hO⟩ : ∃ O, O = w2.heap.size := ⟨_, rfl⟩
    rw [← hw3, ← hO] at hO3 hz3
    rw [← hw3] at hb3
    have hR3 := later hb3 HR2.out
    have hbl3 := below_on HBL2.out hb3
    have hOA : w.heap.size + 2 ≤ O := by rw [hO]; exact hz2
    have q2 := (cells7 (later (one_new w2 #[.string v, .int .u64 key, .int .i64 serial, .int .i64 size, .string bv, .int .i64 bs, .slice sa ms.length scap] 35).2.1 hA2)).2.2.1
    have HW3 := Lib.hid hw3
    have HO := Lib.hid hO
    have HO3 := Lib.hid hO3
    have HR3 := Lib.hid hR3
    have HB3 := Lib.hid hbl3
    have HZ3 := Lib.hid hz3
    clear hA2 hR2 hb2 hbl2 hw3 hO hO3 hb3 hz3 hR3 hbl3
    go_wp2_with fail
    rw [← HO.out, ← HW3.out]
    clear x0 x1 x2 x3 x4 x5 x6 q2
    go_loopw [8] (fun i wr => ∃ (k : Nat) (so : Value) (s : List Snp), i = .int .i64 k ∧ k ≤ l.length ∧ s.length ≤ ms.length + k ∧ Hid (wr.heap[O]? = some (.cells #[.string v, .int .u64 key, .int .i64 (serial + 1), .int .i64 size, .string bv, .int .i64 bs, so] 35 (0, 0))) ∧ Hid (wr.heap[w.heap.size + 1]? = some (.cells #[.string ⟨#[]⟩, .int .u64 0, .int .i64 0, .int .i64 0, .string ⟨#[]⟩, .int .i64 0, .slice none 0 0] 35 (0, 0))) ∧ Hid (SnapsAt wr so s) ∧ Hid (CapOk so s.length) ∧ Hid (Below w.heap.size w wr) ∧ Hid (O + 1 ≤ wr.heap.size) ∧ Hid (withL ms l = withL s (l.drop k)) ∧ Hid (s = [] ∨ so.ownBlock ≠ some (w.heap.size + 1))) (fun i _ => l.length - (intOf i).toNat)
    case atStart => exact ⟨0, _, ms, rfl, by omega, by omega, HO3, HR3, Snaps_later HB3.out HSS.out, HCAP, HB3, (show O + 1 ≤ w3.heap.size by rw [HZ3.out]; omega), rfl, snaps_block HSS.out _ (by omega)⟩
    case round =>
      obtain ⟨k, so, s, rfl, hkl, hsl, HOr, HRr, HSr, HCr, HBr, HZr, HWr, HNB⟩ := hrel
      by_cases hlt : k < l.length
      · obtain ⟨b, off, rfl, hc0, hc1, hc2⟩ := HLC.out k hlt
        have hbl := HBr.out
        have c0 := (hbl.cell (p := ⟨b, off + k * 3, none⟩) (World.block_lt_of_cell? _ _ hc0)).trans hc0
        have c1 := (hbl.cell (p := ⟨b, off + k * 3 + 1, none⟩) (World.block_lt_of_cell? _ _ hc1)).trans hc1
        have c2 := (hbl.cell (p := ⟨b, off + k * 3 + 2, none⟩) (World.block_lt_of_cell? _ _ hc2)).trans hc2
        have hk0 : (0 : Int) ≤ (k : Int) := Int.natCast_nonneg _
        have hk1 : (k : Int) < (l.length : Int) := by omega
        have hstep := withL_step (s := s) hlt
        obtain ⟨x, hx⟩ : ∃ x, x = l.getD k Snp.zero := ⟨_, rfl⟩
        rw [← hx] at c0 c1 c2 hstep
        have hfa := fnd_any s x.name
        have HFI := Lib.hid (fun W (hW : SnapsAt W so s) => HFIND.out s so x.name W hW (by omega))
        obtain ⟨oa, ocap, rfl, hnone, hcl, hcm⟩ := HCr.out
        generalize hfi : fndI s x.name = fi at HFI hfa
        obtain ⟨o0, o1, o2, o3, o4, o5, o6⟩ := cells7 HOr.out
        have hzO := HZr.out
        have HST := Lib.hid hstep
        have HXX := Lib.hid hx
        have HFA := Lib.hid hfa
        have HC0 := Lib.hid c0
        have HC1 := Lib.hid c1
        have HC2' := Lib.hid c2
        have HHNONE := Lib.hid hnone
        clear hc0 hc1 hc2 hx hstep hbl hfi hfa hnone
        clear c1 c2
        have pay : ∀ W, W.heap = wr.heap → SnapsAt W (.slice oa s.length ocap) s := fun W hW => Snaps_same HSr.out hW
        have PAY := Lib.hid pay
        clear pay
        by_cases hfd : 0 ≤ fi
        · have hfound : withL ms l = none := by rw [HWr.out, HST.out, ← HFA.out, decide_eq_true hfd]; rfl
          have HFO := Lib.hid hfound
          clear hfound
          go_wp2_with fail
          go_region_held3 (fun w' => w'.cell? ⟨O, 0, none⟩ = some (.string v) ∧ w'.cell? ⟨O, 1, none⟩ = some (.int .u64 key) ∧ w'.cell? ⟨O, 2, none⟩ = some (.int .i64 (serial + 1)) ∧ w'.cell? ⟨O, 3, none⟩ = some (.int .i64 size) ∧ w'.cell? ⟨O, 4, none⟩ = some (.string bv) ∧ w'.cell? ⟨O, 5, none⟩ = some (.int .i64 bs) ∧ w'.cell? ⟨O, 6, none⟩ = some (.slice oa s.length ocap) ∧ w'.cell? ⟨b, off + k * 3, none⟩ = some (.string x.name))
            (first | (exact ⟨p0, p1, p2, p3, p4, p5, p6, pc0⟩) | go_keep)
            ((go_at_call 53; refine (HFI.out _ ?_).mono ?_; (exact PAY.out _ rfl); rintro e w5 ⟨rfl, hb5⟩
              have hq5 : Below wr.heap.size wr w5 := ⟨hb5.os, hb5.tape, hb5.output, hb5.size, hb5.block⟩
              have hO5 := later hq5 HOr.out
              have hR5 := later hq5 HRr.out
              obtain ⟨p0, p1, p2, p3, p4, p5, p6⟩ := cells7 hO5
              have pc0 := (hq5.cell (p := ⟨b, off + k * 3, none⟩) (World.block_lt_of_cell? _ _ HC0.out)).trans HC0.out))
          obtain ⟨y0, y1, y2, y3, y4, y5, y6⟩ := cells7 hR5
          have fb := frozen_of_heap hR5
          have HR5 := Lib.hid hR5
          have HB5 := Lib.hid (below_on HBr.out hq5)
          clear hO5 hR5 hb5 hq5 o0 o1 o2 o3 o4 o5 o6 c0 p0 p1 p2 p3 p4 p5 p6 pc0
          go_wp2
          obtain ⟨g1, g2⟩ := seven HR5.out (.string ⟨#[]⟩) (.int .u64 0) (.int .i64 0) (.int .i64 0) (.string ⟨#[]⟩) (.int .i64 0) (.slice none 0 0)
          refine leaveB (res20 g1 rfl rfl) ?_
          rw [HDUP.out True.intro HFO.out]
          exact ⟨_, rfl, snaps_nil _, below_seven HB5.out (w.heap.size + 1) (by omega) _ _ _ _ _ _ _⟩
        · have hstp : withL ms l = withL (ins x s) (l.drop (k + 1)) := by rw [HWr.out, HST.out, ← HFA.out, decide_eq_false hfd]; rfl
          have HSTP := Lib.hid hstp
          have hfd' : decide (0 ≤ fi) = false := decide_eq_false hfd
          clear hstp
          go_wp2_with fail
          go_region_held3 (fun w' => w'.cell? ⟨O, 0, none⟩ = some (.string v) ∧ w'.cell? ⟨O, 1, none⟩ = some (.int .u64 key) ∧ w'.cell? ⟨O, 2, none⟩ = some (.int .i64 (serial + 1)) ∧ w'.cell? ⟨O, 3, none⟩ = some (.int .i64 size) ∧ w'.cell? ⟨O, 4, none⟩ = some (.string bv) ∧ w'.cell? ⟨O, 5, none⟩ = some (.int .i64 bs) ∧ w'.cell? ⟨O, 6, none⟩ = some (.slice oa s.length ocap) ∧ w'.cell? ⟨b, off + k * 3, none⟩ = some (.string x.name))
            (first | (exact ⟨p0, p1, p2, p3, p4, p5, p6, pc0⟩) | go_keep)
            ((go_at_call 53; refine (HFI.out _ ?_).mono ?_; (exact PAY.out _ rfl); rintro e w5 ⟨rfl, hb5⟩
              have hq5 : Below wr.heap.size wr w5 := ⟨hb5.os, hb5.tape, hb5.output, hb5.size, hb5.block⟩
              have hO5 := later hq5 HOr.out
              have hR5 := later hq5 HRr.out
              obtain ⟨p0, p1, p2, p3, p4, p5, p6⟩ := cells7 hO5
              have pc0 := (hq5.cell (p := ⟨b, off + k * 3, none⟩) (World.block_lt_of_cell? _ _ HC0.out)).trans HC0.out))
          have hsS5 := Snaps_later hq5 HSr.out
          have hbl5 := below_on HBr.out hq5
          have hz5 := hq5.size
          have HO5 := Lib.hid hO5
          have HR5 := Lib.hid hR5
          have HS5 := Lib.hid hsS5
          have HB5 := Lib.hid hbl5
          have HQ5 := Lib.hid hq5
          clear hO5 hR5 hb5 hq5 o0 o1 o2 o3 o4 o5 o6 c0 p0 p1 p2 p3 p4 p5 p6 pc0 hsS5 hbl5 hfd'
          go_upto_block 2 with (fail)
          clear hfd
          go_cut [9, 10] from 22 to 79 (fun nx kk wq => ∃ (j : Nat), kk = .int .i64 j ∧ j ≤ s.length ∧ Hid (wq.ownsRow w5.heap.size 81 3 nx j (rowVals (s.take j))) ∧ Hid (Below w5.heap.size w5 wq) ∧ Hid (∀ i, i < j → lessS (s.getD i Snp.zero) x = true) ∧ Hid (j = s.length ∨ lessS (s.getD j Snp.zero) x = false))
          case rest =>
            obtain ⟨j, rfl, hjs, HOq, HBq, HLq, HEX⟩ := hcut
            obtain ⟨na, ncap, rfl⟩ := owns_slice HOq.out
            have hins := ins_at hjs HLq.out HEX.out
            have hcat : rowVals (s.take j) ++ [.string x.name, .int .i64 x.seq, .int .i64 x.upto] = rowVals (s.take j ++ [x]) := by rw [rowVals_append]; rfl
            have hcat2 : rowVals (s.take j ++ [x]) ++ rowVals (s.drop j) = rowVals (ins x s) := by rw [hins, ← rowVals_append]; simp
            have hil : (ins x s).length = s.length + 1 := by rw [(ins_perm x s).length_eq, List.length_append]; rfl
            have far : ∀ p u, wr.cell? p = some u → wc.cell? p = some u := fun p u h => by
              have h5 := (HQ5.out.cell (p := p) (World.block_lt_of_cell? _ _ h)).trans h
              exact (HBq.out.cell (p := p) (World.block_lt_of_cell? _ _ h5)).trans h5
            have c0 := far _ _ HC0.out
            have c1 := far _ _ HC1.out
            have c2 := far _ _ HC2'.out
            have hzq := HBq.out.size
            have hmx : j + 1 ≤ maxLen := by unfold maxLen; omega
            have HMX := Lib.hid hmx
            have HIL := Lib.hid hil
            have HCAT := Lib.hid hcat
            have HCAT2 := Lib.hid hcat2
            generalize hrow : rowVals (s.take j) = row at *
            clear far hins hcat hcat2 hil hrow hmx
            go_upto_region 17 with (at_builtin; refine wpList_append_lies _ rfl _ _ 33 rfl w5.heap.size 81 i0 _ 3 32 Try.underlying33 hi hy0 hy1 hy2 rfl (by omega) (.slice na j ncap) j row rfl (HOq.out.alloc _) ⟨wc.heap.size, 0, none⟩ 1 1 [.string x.name, .int .i64 x.seq, .int .i64 x.upto] rfl rfl (World.news_of_block (cs := #[.string x.name, .int .i64 x.seq, .int .i64 x.upto]) (t := 81) (fr := (0, 0)) (heap_alloc_new wc _)) (by simp [Value.oneCell']) (by omega) HMX.out (by omega) (by simp; omega) (wc.heap.size + 1) (by simp) ?_; intro gg cap' w6 hown6 hgrow hat hlt6; have HG6 := Lib.hid hgrow; have HOW6 := Lib.hid hown6; clear hgrow hown6 hat hlt6)
            have hb6 : Below w5.heap.size w5 w6 := below_grown HBq.out HBq.out.size HG6.out (fun k hk => (HOq.out.lt k hk).1)
            have hO6 := later hb6 HO5.out
            have hR6 := later hb6 HR5.out
            have hS6 := Snaps_later hb6 HS5.out
            have hbl6 := below_on HB5.out hb6
            have hz6 := hb6.size
            obtain ⟨q0, q1, q2, q3, q4, q5, q6⟩ := cells7 hO6
            have HO6 := Lib.hid hO6
            have HR6 := Lib.hid hR6
            have HS6 := Lib.hid hS6
            have HB6 := Lib.hid hbl6
            clear hO6 hR6 hS6 hbl6 hb6 c0 c1 c2
            have hneO : ∀ o, o = (Value.slice (some ⟨gg, 0, none⟩) (j + 1) cap').ownBlock → o ≠ some O := fun o ho e => by rw [ho] at e; have := (HOW6.out.lt _ e).1; have := World.lt_of_heap HO5.out; omega
            have hneR : ∀ o, o = (Value.slice (some ⟨gg, 0, none⟩) (j + 1) cap').ownBlock → o ≠ some (w.heap.size + 1) := fun o ho e => by rw [ho] at e; have := (HOW6.out.lt _ e).1; have := World.lt_of_heap HR5.out; omega
            rw [HCAT.out] at HOW6
            cases oa with
            | none =>
              have hs0 : s = [] := by
                cases s with
                | nil => rfl
                | cons y s => obtain ⟨_, _, e, hc⟩ := HS6.out; obtain ⟨b', off', ha, _⟩ := hc 0 (by simp); injection e with e1; rw [← e1] at ha; cases ha
              have hc0 : ocap = 0 := HHNONE.out rfl
              have hlen0 : s.length = 0 := by rw [hs0]; rfl
              obtain rfl : j = 0 := by omega
              have hrow0 : rowVals (s.take 0 ++ [x]) = rowVals (ins x s) := by rw [hs0]; rfl
              rw [hrow0] at HOW6
              clear hs0 hrow0
              subst hc0
              have q6' : w6.cell? ⟨O, 6, none⟩ = some (.slice none 0 0) := by rw [q6, hlen0]
              have HLEN := Lib.hid hlen0
              clear hlen0 q6
              have fO := frozen_of_heap HO6.out
              go_wp2_with (at_builtin; refine wpList_append_own_none rfl _ _ 33 rfl w5.heap.size 81 i0 3 Try.underlying33 hi _ _ _ rfl HOW6.out rfl ?_)
              have hown0 : w6.ownsRow w5.heap.size 81 3 (.slice (some ⟨gg, 0, none⟩) 1 cap') (s.length + 1) (rowVals (ins x s)) := by rw [HLEN.out]; exact HOW6.out
              have HOW0 := Lib.hid hown0
              clear hown0
              have kA := heap_setCell_same w6 O 6 _ 35 (.slice (some ⟨gg, 0, none⟩) 1 cap') HO6.out
              have kR := (heap_setCell_other w6 ⟨O, 6, none⟩ (w.heap.size + 1) (.slice (some ⟨gg, 0, none⟩) 1 cap') (by show w.heap.size + 1 ≠ O; omega)).trans HR6.out
              have kO : (w6.setCell ⟨O, 6, none⟩ (.slice (some ⟨gg, 0, none⟩) 1 cap')).ownsRow w5.heap.size 81 3 (.slice (some ⟨gg, 0, none⟩) 1 cap') (ins x s).length (rowVals (ins x s)) := by
                rw [HIL.out]
                exact own_keeps HOW0.out fun q hq => heap_setCell_other _ _ _ _ (by have := (HOW0.out.lt q hq).1; have := World.lt_of_heap HO5.out; show q ≠ O; omega)
              have kB : Below w.heap.size w (w6.setCell ⟨O, 6, none⟩ (.slice (some ⟨gg, 0, none⟩) 1 cap')) := HB6.out.setCell (by show _ ≤ O; omega) _
              have kZ : O + 1 ≤ (w6.setCell ⟨O, 6, none⟩ (.slice (some ⟨gg, 0, none⟩) 1 cap')).heap.size := by rw [World.size_setCell]; exact World.lt_of_heap HO6.out
              have QA := Lib.hid kA
              have QR := Lib.hid kR
              have QO := Lib.hid kO
              have QB := Lib.hid kB
              have QZ := Lib.hid kZ
              have QN : Hid ((Value.slice (some ⟨gg, 0, none⟩) 1 cap').ownBlock ≠ some (w.heap.size + 1)) := fun e => by have := (QO.out.lt _ e).1; have := World.lt_of_heap HO5.out; omega
              have hlen := HIL.out
              clear kA kR kO kB kZ
              go_roundw
              case rel => exact ⟨k + 1, _, ins x s, by go_num, by omega, by omega, QA, QR, snaps_of_rowE QO.out, own_cap QO.out, QB, QZ, HSTP, .inr QN.out⟩
              case measure => simp [intOf]; omega
            | some ad =>
              have hmx2 : j + 1 + (s.length - j) ≤ maxLen := by unfold maxLen; omega
              have HMX2 := Lib.hid hmx2
              have hby : (j + 1 + (s.length - j)) * 32 ≤ 140737488355328 := by omega
              have hd3 : (rowVals (s.drop j)).length = (s.length - j) * 3 := by rw [rowVals_length, List.length_drop]
              have HD3 := Lib.hid hd3
              have hone := rowVals_one (s.drop j)
              have HONE := Lib.hid hone
              have e7 : j + 1 + (s.length - j) = s.length + 1 := by omega
              have HE7 := Lib.hid e7
              have HBY := Lib.hid hby
              have hnews0 := snaps_news HS6.out
              have hnews : ∀ t u, (rowVals (s.drop j))[t]? = some u → w6.cell? ((ad.add (j * 3)).add t) = some u := fun t u h => by
                rw [Go.Deep.add_add]
                refine hnews0 (j * 3 + t) u ?_
                have e : rowVals s = rowVals (s.take j) ++ rowVals (s.drop j) := by rw [← rowVals_append, List.take_append_drop]
                have el : (rowVals (s.take j)).length = j * 3 := by rw [rowVals_length, List.length_take, Nat.min_eq_left hjs]
                rw [e, List.getElem?_append_right (by omega), el, Nat.add_sub_cancel_left]
                exact h
              have HNEWS := Lib.hid hnews
              clear hmx2 hd3 hone e7 hby hnews0 hnews
              by_cases hcj : ocap = j
              · obtain rfl : j = s.length := by omega
                subst hcj
                have h70 : w6.ownsRow w5.heap.size 81 3 (.slice (some ⟨gg, 0, none⟩) (s.length + 1) cap') (s.length + 1) (rowVals (ins x s)) := by
                  have e : rowVals (s.take s.length ++ [x]) = rowVals (ins x s) := by rw [← HCAT2.out, List.drop_length]; simp [rowVals]
                  rw [← e]; exact HOW6.out
                have H70 := Lib.hid h70
                clear h70
                go_wp2_with (at_builtin; refine wpList_append_own _ rfl _ _ 33 rfl w5.heap.size 81 i0 _ 3 32 Try.underlying33 hi hy0 hy1 hy2 rfl (by omega) _ _ _ rfl H70.out ad 0 0 [] rfl (by simp) (fun _ _ h => by simp at h) (fun _ h => by simp at h) (by unfold maxLen; omega) (by omega) (by omega) ?_; intro v7 w7 hown7 hgrow _; have h7 : w7.ownsRow w5.heap.size 81 3 v7 (s.length + 1) (rowVals (ins x s)) := (by simpa using hown7); have hO7 := grown_same hgrow HO6.out (hneO _ rfl); have hR7 := grown_same hgrow HR6.out (hneR _ rfl); have hb7 := (HB6.out.grown hgrow HB6.out.size (fun k hk => Nat.le_trans (by have := HB5.out.size; omega) (HOW6.out.lt k hk).1)); have hz7 := hgrow.size; obtain ⟨va, vc, rfl⟩ := owns_slice h7; have o6 := (cells7 hO7).2.2.2.2.2.2; have fO := frozen_of_heap hO7; have HO7 := Lib.hid hO7; have HR7 := Lib.hid hR7; have H7 := Lib.hid h7; have HB7 := Lib.hid hb7; clear hO7 hR7 h7 hb7 hgrow hown7 q0 q1 q2 q3 q4 q5 q6)
                have kA := heap_setCell_same w7 O 6 _ 35 (.slice va (s.length + 1) vc) HO7.out
                have kR := (heap_setCell_other w7 ⟨O, 6, none⟩ (w.heap.size + 1) (.slice va (s.length + 1) vc) (by show w.heap.size + 1 ≠ O; omega)).trans HR7.out
                have kO : (w7.setCell ⟨O, 6, none⟩ (.slice va (s.length + 1) vc)).ownsRow w5.heap.size 81 3 (.slice va (s.length + 1) vc) (ins x s).length (rowVals (ins x s)) := by
                  rw [HIL.out]
                  exact own_keeps H7.out fun q hq => heap_setCell_other _ _ _ _ (by have := (H7.out.lt q hq).1; have := World.lt_of_heap HO5.out; show q ≠ O; omega)
                have kB : Below w.heap.size w (w7.setCell ⟨O, 6, none⟩ (.slice va (s.length + 1) vc)) := HB7.out.setCell (by show _ ≤ O; omega) _
                have kZ : O + 1 ≤ (w7.setCell ⟨O, 6, none⟩ (.slice va (s.length + 1) vc)).heap.size := by rw [World.size_setCell]; exact World.lt_of_heap HO7.out
                have QA := Lib.hid kA
                have QR := Lib.hid kR
                have QO := Lib.hid kO
                have QB := Lib.hid kB
                have QZ := Lib.hid kZ
                have QN : Hid ((Value.slice va (s.length + 1) vc).ownBlock ≠ some (w.heap.size + 1)) := fun e => by have := (QO.out.lt _ e).1; have := World.lt_of_heap HO5.out; omega
                have hlen := HIL.out
                clear kA kR kO kB kZ
                go_roundw
                case rel => exact ⟨k + 1, _, ins x s, by go_num, by omega, by omega, QA, QR, snaps_of_rowE QO.out, own_cap QO.out, QB, QZ, HSTP, .inr QN.out⟩
                case measure => simp [intOf]; omega
              · go_wp2_with (at_builtin; refine wpList_append_own _ rfl _ _ 33 rfl w5.heap.size 81 i0 _ 3 32 Try.underlying33 hi hy0 hy1 hy2 rfl (by omega) _ _ _ rfl HOW6.out (ad.add (j * 3)) (s.length - j) (ocap - j) (rowVals (s.drop j)) rfl HD3.out HNEWS.out HONE.out HMX2.out HBY.out (by omega) ?_; intro v7 w7 hown7 hgrow _; have h7 : w7.ownsRow w5.heap.size 81 3 v7 (s.length + 1) (rowVals (ins x s)) := (by rw [← HCAT2.out, ← HE7.out]; exact hown7); have hO7 := grown_same hgrow HO6.out (hneO _ rfl); have hR7 := grown_same hgrow HR6.out (hneR _ rfl); have hb7 := (HB6.out.grown hgrow HB6.out.size (fun k hk => Nat.le_trans (by have := HB5.out.size; omega) (HOW6.out.lt k hk).1)); have hz7 := hgrow.size; obtain ⟨va, vc, rfl⟩ := owns_slice h7; have o6 := (cells7 hO7).2.2.2.2.2.2; have fO := frozen_of_heap hO7; have HO7 := Lib.hid hO7; have HR7 := Lib.hid hR7; have H7 := Lib.hid h7; have HB7 := Lib.hid hb7; clear hO7 hR7 h7 hb7 hgrow hown7 q0 q1 q2 q3 q4 q5 q6)
                have kA := heap_setCell_same w7 O 6 _ 35 (.slice va (s.length + 1) vc) HO7.out
                have kR := (heap_setCell_other w7 ⟨O, 6, none⟩ (w.heap.size + 1) (.slice va (s.length + 1) vc) (by show w.heap.size + 1 ≠ O; omega)).trans HR7.out
                have kO : (w7.setCell ⟨O, 6, none⟩ (.slice va (s.length + 1) vc)).ownsRow w5.heap.size 81 3 (.slice va (s.length + 1) vc) (ins x s).length (rowVals (ins x s)) := by
                  rw [HIL.out]
                  exact own_keeps H7.out fun q hq => heap_setCell_other _ _ _ _ (by have := (H7.out.lt q hq).1; have := World.lt_of_heap HO5.out; show q ≠ O; omega)
                have kB : Below w.heap.size w (w7.setCell ⟨O, 6, none⟩ (.slice va (s.length + 1) vc)) := HB7.out.setCell (by show _ ≤ O; omega) _
                have kZ : O + 1 ≤ (w7.setCell ⟨O, 6, none⟩ (.slice va (s.length + 1) vc)).heap.size := by rw [World.size_setCell]; exact World.lt_of_heap HO7.out
                have QA := Lib.hid kA
                have QR := Lib.hid kR
                have QO := Lib.hid kO
                have QB := Lib.hid kB
                have QZ := Lib.hid kZ
                have QN : Hid ((Value.slice va (s.length + 1) vc).ownBlock ≠ some (w.heap.size + 1)) := fun e => by have := (QO.out.lt _ e).1; have := World.lt_of_heap HO5.out; omega
                have hlen := HIL.out
                clear kA kR kO kB kZ
                go_roundw
                case rel => exact ⟨k + 1, _, ins x s, by go_num, by omega, by omega, QA, QR, snaps_of_rowE QO.out, own_cap QO.out, QB, QZ, HSTP, .inr QN.out⟩
                case measure => simp [intOf]; omega
          case first =>
            go_wp2_with fail
            go_loopw [9, 10] (fun nx kk wq => ∃ (j : Nat), kk = .int .i64 j ∧ j ≤ s.length ∧ Hid (wq.ownsRow w5.heap.size 81 3 nx j (rowVals (s.take j))) ∧ Hid (Below w5.heap.size w5 wq) ∧ Hid (∀ i, i < j → lessS (s.getD i Snp.zero) x = true)) (fun _ kk _ => s.length - (intOf kk).toNat)
            case atStart => exact ⟨0, rfl, by omega, World.ownsRow_nil _ _ _ _, Below.refl _ _, fun i hi => by omega⟩
            case round =>
              obtain ⟨j, rfl, hjs, HOq, HBq, HLq⟩ := hrel
              obtain ⟨q0, q1, q2, q3, q4, q5, q6⟩ := cells7 (later HBq.out HO5.out)
              have hcx := (HBq.out.cell (p := ⟨b, off + k * 3, none⟩) (World.block_lt_of_cell? _ _ ((HQ5.out.cell (p := ⟨b, off + k * 3, none⟩) (World.block_lt_of_cell? _ _ HC0.out)).trans HC0.out))).trans ((HQ5.out.cell (p := ⟨b, off + k * 3, none⟩) (World.block_lt_of_cell? _ _ HC0.out)).trans HC0.out)
              have hzq := HBq.out.size
              obtain ⟨na, ncap, rfl⟩ := owns_slice HOq.out
              by_cases hin : j < s.length ∧ lessS (s.getD j Snp.zero) x = true
              · obtain ⟨hj, hless⟩ := hin
                obtain ⟨_, _, es, hcs⟩ := Snaps_later HBq.out HS5.out
                injection es with es1 es2 es3
                subst es1 es3
                obtain ⟨bb, oo, rfl, e0, e1, e2⟩ := hcs j hj
                clear hcs
                have hj0 : (0 : Int) ≤ (j : Int) := Int.natCast_nonneg _
                have hj1 : (j : Int) < (s.length : Int) := by omega
                have hjd : decide (j < s.length) = true := decide_eq_true hj
                have HT := Lib.hid (rowVals_take s j hj)
                obtain ⟨y, hy⟩ : ∃ y, y = s.getD j Snp.zero := ⟨_, rfl⟩
                rw [← hy] at e0 e1 e2 hless HT
                unfold lessS at hless
                have HY := Lib.hid hy
                have HLE := Lib.hid hless
                generalize hrow : rowVals (s.take j) = row at *
                have hmx : j + 1 ≤ maxLen := by unfold maxLen; omega
                have HMX := Lib.hid hmx
                clear hy hrow hmx
                go_wp2_with fail
                go_quiet (fail)
                have HON : Hid ((wr.drewN nq).ownsRow w5.heap.size 81 3 (.slice na j ncap) j row) := own_keeps HOq.out (fun _ _ => rfl)
                have HBN : Hid (Below w5.heap.size w5 (wr.drewN nq)) := ⟨HBq.out.os, HBq.out.tape, HBq.out.output, HBq.out.size, HBq.out.block⟩
                have hzn : w5.heap.size ≤ (wr.drewN nq).heap.size := hzq
                obtain ⟨wn, hwn⟩ : ∃ wn, wn = wr.drewN nq := ⟨_, rfl⟩
                have d0 : wn.cell? ⟨bb, oo + j * 3, none⟩ = some (.string y.name) := by rw [hwn]; exact e0
                have d1 : wn.cell? ⟨bb, oo + j * 3 + 1, none⟩ = some (.int .i64 y.seq) := by rw [hwn]; exact e1
                have d2 : wn.cell? ⟨bb, oo + j * 3 + 2, none⟩ = some (.int .i64 y.upto) := by rw [hwn]; exact e2
                have d6 : wn.cell? ⟨O, 6, none⟩ = some (.slice (some ⟨bb, oo, none⟩) s.length ocap) := by rw [hwn]; exact q6
                rw [← hwn] at HON HBN hzn ⊢
                clear hwn e0 e1 e2 q0 q1 q2 q3 q4 q5 q6 hcx hless hjd
                go_wp2_with (at_builtin; refine wpList_append_lies _ rfl _ _ 33 rfl w5.heap.size 81 i0 _ 3 32 Try.underlying33 hi hy0 hy1 hy2 rfl (by omega) (.slice na j ncap) j row rfl (HON.out.alloc _) ⟨wn.heap.size, 0, none⟩ 1 1 [.string y.name, .int .i64 y.seq, .int .i64 y.upto] rfl rfl (World.news_of_block (cs := #[.string y.name, .int .i64 y.seq, .int .i64 y.upto]) (t := 81) (fr := (0, 0)) (heap_alloc_new wn _)) (by simp [Value.oneCell']) (by omega) HMX.out (by omega) (by simp; omega) (wn.heap.size + 1) (by simp) ?_; intro gg cap' w6 hown6 hgrow hat hlt6; have HG6 := Lib.hid hgrow; have HOW6 := Lib.hid hown6; clear hgrow hown6 hat hlt6)
                have hrO : w6.ownsRow w5.heap.size 81 3 (.slice (some ⟨gg, 0, none⟩) (j + 1) cap') (j + 1) (rowVals (s.take (j + 1))) := by rw [HT.out]; exact HOW6.out
                have hrB : Below w5.heap.size w5 w6 := below_grown HBN.out HBN.out.size HG6.out (fun k hk => (HON.out.lt k hk).1)
                have QO := Lib.hid hrO
                have QB := Lib.hid hrB
                clear hrO hrB
                go_roundw
                case rel =>
                  refine ⟨j + 1, by go_num, by omega, QO, QB, fun i hi => ?_⟩
                  by_cases e : i = j
                  · subst e; rw [← HY.out]; exact HLE.out
                  · exact HLq.out i (by omega)
                case measure => simp [intOf]; omega
              · have hex : Hid (j = s.length ∨ lessS (s.getD j Snp.zero) x = false) := by
                  by_cases e : j = s.length
                  · exact .inl e
                  · refine .inr ?_
                    cases h : lessS (s.getD j Snp.zero) x with
                    | false => rfl
                    | true => exact absurd ⟨by omega, h⟩ hin
                clear hin
                by_cases hj : j < s.length
                · have hless : lessS (s.getD j Snp.zero) x = false := by
                    rcases hex.out with e | e
                    · omega
                    · exact e
                  obtain ⟨_, _, es, hcs⟩ := Snaps_later HBq.out HS5.out
                  injection es with es1 es2 es3
                  subst es1 es3
                  obtain ⟨bb, oo, rfl, e0, e1, e2⟩ := hcs j hj
                  clear hcs e1 e2
                  have hj0 : (0 : Int) ≤ (j : Int) := Int.natCast_nonneg _
                  have hj1 : (j : Int) < (s.length : Int) := by omega
                  have hjd : decide (j < s.length) = true := decide_eq_true hj
                  obtain ⟨y, hy⟩ : ∃ y, y = s.getD j Snp.zero := ⟨_, rfl⟩
                  rw [← hy] at e0 hless
                  unfold lessS at hless
                  clear hy
                  go_wp2_with fail
                  go_quiet (fail)
                  go_wp2
                  go_meet
                  case rel => exact ⟨j, rfl, hjs, own_keeps HOq.out (fun _ _ => rfl), ⟨HBq.out.os, HBq.out.tape, HBq.out.output, HBq.out.size, HBq.out.block⟩, HLq, hex⟩
                · have hjd : decide (j < s.length) = false := decide_eq_false hj
                  have hji : decide ((j : Int) < (s.length : Int)) = false := decide_eq_false (by omega)
                  go_wp2_with fail
                  go_quiet (fail)
                  go_wp2
                  go_meet
                  case rel => exact ⟨j, rfl, hjs, own_keeps HOq.out (fun _ _ => rfl), ⟨HBq.out.os, HBq.out.tape, HBq.out.output, HBq.out.size, HBq.out.block⟩, HLq, hex⟩
      · obtain rfl : k = l.length := by omega
        have hall : withL ms l = some s := by rw [HWr.out, List.drop_length]; rfl
        have HALL := Lib.hid hall
        obtain ⟨oa, ocap, rfl, _⟩ := HCr.out
        obtain ⟨c2, hc2⟩ : ∃ c2, chk ⟨v, key, serial + 1, size, bv, bs, s⟩ = c2 := ⟨_, rfl⟩
        have HCHK := HC2.out wr s _ hall HSr.out
        rw [hc2] at HCHK
        have HCHK := Lib.hid HCHK
        have HCC2 := Lib.hid hc2
        obtain ⟨x0, x1, x2, x3, x4, x5, x6⟩ := cells7 HOr.out
        have hzO := HZr.out
        clear hall hc2
        go_wp2_with fail
        refine HCHK.out.mono ?_
        rintro e w6 ⟨rfl, hb6⟩
        have hO6 := later hb6 HOr.out
        have hR6 := later hb6 HRr.out
        have hS6 := Snaps_later hb6 HSr.out
        have hbl6 := below_on HBr.out hb6
        have fb := frozen_of_heap hR6
        obtain ⟨q0, q1, q2, q3, q4, q5, q6⟩ := cells7 hR6
        obtain ⟨y0, y1, y2, y3, y4, y5, y6⟩ := cells7 hO6
        have HO6 := Lib.hid hO6
        have HR6 := Lib.hid hR6
        have HB6 := Lib.hid hbl6
        have HS6 := Lib.hid hS6
        clear hR6 hbl6 hb6 hO6 hS6 x0 x1 x2 x3 x4 x5 x6
        by_cases h2 : c2 = 0
        · subst h2
          go_wp2
          obtain ⟨g1, g2⟩ := seven HR6.out (.string v) (.int .u64 key) (.int .i64 (serial + 1)) (.int .i64 size) (.string bv) (.int .i64 bs) (.slice oa s.length ocap)
          refine leaveB (res20 g1 rfl rfl) ?_
          have hb := below_seven HB6.out (w.heap.size + 1) (by omega) (.string v) (.int .u64 key) (.int .i64 (serial + 1)) (.int .i64 size) (.string bv) (.int .i64 bs) (.slice oa s.length ocap)
          rw [HGOOD.out s True.intro HALL.out HCC2.out]
          refine ⟨_, rfl, ?_, hb⟩
          rcases HNB.out with e | e
          · exact snaps_none e
          · exact Snaps_own HS6.out g2 e
        · have hcf : (c2 != 0) = true := by simp [h2]
          go_wp2
          obtain ⟨g1, g2⟩ := seven HR6.out (.string ⟨#[]⟩) (.int .u64 0) (.int .i64 0) (.int .i64 0) (.string ⟨#[]⟩) (.int .i64 0) (.slice none 0 0)
          refine leaveB (res20 g1 rfl rfl) ?_
          rw [HBAD2.out s c2 True.intro HALL.out HCC2.out h2]
          exact ⟨_, rfl, snaps_nil _, below_seven HB6.out (w.heap.size + 1) (by omega) _ _ _ _ _ _ _⟩
  · have hcf : (c != 0) = true := by simp [h0]
    obtain ⟨y0, y1, y2, y3, y4, y5, y6⟩ := cells7 hR2
    have fb := frozen_of_heap hR2
    clear hA2 hR2 hb2 hbl2
    go_wp2
    obtain ⟨g1, g2⟩ := seven HR2.out (.string ⟨#[]⟩) (.int .u64 0) (.int .i64 0) (.int .i64 0) (.string ⟨#[]⟩) (.int .i64 0) (.slice none 0 0)
    refine leaveB (res20 g1 rfl rfl) ?_
    rw [HBAD.out c rfl h0]
    exact ⟨_, rfl, snaps_nil _, below_seven HBL2.out (w.heap.size + 1) (by omega) _ _ _ _ _ _ _⟩
end Go.Proofs.Ytmkcphelmgkipaa
