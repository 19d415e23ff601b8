import Derived.Test.YtmkcphelmgkipaaT54
import Derived.Deep.Cut
import Derived.Outline
set_option linter.unusedVariables false
set_option linter.unusedSimpArgs false
namespace Go.Proofs.Ytmkcphelmgkipaa
open Go.RowKit

set_option maxHeartbeats 2000000 in
set_option maxRecDepth 100000 in
theorem insertion_none (fv : Value) (w : World) :
    Calls Try.prog 89 #[.slice none 0 0, .int .i64 0, .int .i64 0, fv] w fun e w' => e = .returned (.tuple #[]) ∧ w' = w := by
  go_enter Try.func89, Try.ntmps89
  go_wp2
  refine wp_loop_rounds 1 ?_
  rw [rounds_succ]
  go_wp2
  go_end0
  exact ⟨rfl, rfl⟩

set_option maxHeartbeats 2000000 in
set_option maxRecDepth 100000 in
theorem pdq_none (fv : Value) (w : World) :
    Calls Try.prog 78 #[.slice none 0 0, .int .i64 0, .int .i64 0, .int .i64 0, fv] w fun e w' => e = .returned (.tuple #[]) ∧ w' = w := by
  have hi := fun W => insertion_none fv W
  go_enter Try.func78, Try.ntmps78
  go_wp2
  refine wp_loop_rounds 1 ?_
  rw [rounds_succ]
  go_wp2_with (go_at_call 89; refine (hi _).mono ?_; rintro e w' ⟨rfl, rfl⟩)
  (try simp only [Exit.inBlock, Exit.then]); refine bodyPost_ret (results_none rfl _ _ _) rfl ?_
  exact ⟨rfl, rfl⟩

set_option maxHeartbeats 2000000 in
set_option maxRecDepth 100000 in
theorem sort_none (fv : Value) (w : World) :
    Calls Try.prog 49 #[.slice none 0 0, fv] w fun e w' => e = .returned (.tuple #[]) ∧ w' = w := by
  have hp := fun W => pdq_none fv W
  have hl : ∀ W, Calls Try.prog 79 #[.int .u64 0] W fun e w' => e = .returned (.int .i64 0) ∧ w' = W := fun W => Try.bits_Len 0 W (by omega) (by omega)
  go_enter Try.func49, Try.ntmps49
  go_wp2_with (first | (go_at_call 79; refine (hl _).mono ?_; rintro e w' ⟨rfl, rfl⟩) | (go_at_call 78; refine (hp _).mono ?_; rintro e w' ⟨rfl, rfl⟩))
  go_end0
  exact ⟨rfl, rfl⟩

theorem own_keeps {w w' : World} {base : Nat} {e : TypeId} {size n : Nat} {v : Value} {xs : List Value} (h : w.ownsRow base e size v n xs) (hk : ∀ k, v.ownBlock = some k → w'.heap[k]? = w.heap[k]?) : w'.ownsRow base e size v n xs := by
  refine ⟨h.1, ?_⟩
  rcases h.2 with h0 | ⟨g, cap, cur, rfl, hb, hg, h3⟩
  · exact .inl h0
  · exact .inr ⟨g, cap, cur, rfl, hb, (hk g rfl).trans hg, h3⟩

theorem own_base {w : World} {base base' : Nat} {e : TypeId} {size n : Nat} {v : Value} {xs : List Value} (h : w.ownsRow base e size v n xs) (hb : base' ≤ base) : w.ownsRow base' e size v n xs := by
  refine ⟨h.1, ?_⟩
  rcases h.2 with h0 | ⟨g, cap, cur, rfl, hg, h3⟩
  · exact .inl h0
  · exact .inr ⟨g, cap, cur, rfl, by omega, h3⟩

theorem own_later {w w' : World} {base : Nat} {e : TypeId} {size n : Nat} {v : Value} {xs : List Value} (h : w.ownsRow base e size v n xs) (hb : Below w.heap.size w w') : w'.ownsRow base e size v n xs :=
  own_keeps h fun k hk => hb.block k (h.lt k hk).2

theorem fnd_any (l : List Snp) (name : ByteArray) : decide (0 ≤ fndI l name) = l.any (isN name) := by
  unfold fndI fnd
  cases h : l.findIdx? (isN name) with
  | none =>
    rw [List.findIdx?_eq_none_iff] at h
    have : l.any (isN name) = false := by
      rw [List.any_eq_false]
      intro x hx
      rw [h x hx]
      simp
    rw [this]
    rfl
  | some i =>
    rw [List.findIdx?_eq_some_iff_getElem] at h
    obtain ⟨hi, h1, _⟩ := h
    have : l.any (isN name) = true := List.any_eq_true.2 ⟨_, List.getElem_mem hi, h1⟩
    rw [this]
    simp

theorem addL_eq : ∀ (l s a : List Snp), addL s l = some a → a = s ++ l
  | [], s, a, h => by simp [addL] at h; simp [h]
  | x :: r, s, a, h => by
    simp only [addL] at h
    split at h
    · cases h
    · rw [addL_eq r _ a h, List.append_assoc]
      rfl

theorem addL_step {acc l : List Snp} {k : Nat} (hk : k < l.length) : addL acc (l.drop k) = if (acc.any (isN (l.getD k Snp.zero).name)) = true then none else addL (acc ++ [l.getD k Snp.zero]) (l.drop (k + 1)) := by
  rw [List.drop_eq_getElem_cons hk, List.getD_eq_getElem?_getD, List.getElem?_eq_getElem hk]
  rfl

def SortedPost (sl : Value) (l : List Snp) (W : World) (e : Ending) (w' : World) : Prop :=
  e = .returned (.tuple #[]) ∧ KeepsBut (fun k => sl.ownBlock = some k) W w' ∧ ∃ l' : List Snp, l'.Perm l ∧ Rising l' ∧ SnapsAt w' sl l'

theorem sort_own (base : Nat) (l : List Snp) (sl : Value) (w : World) (hown : w.ownsRow base 56 3 sl l.length (rowVals l)) (hl : l.length ≤ 1000000) :
    Calls Try.prog 49 #[sl, .func (.func 50) #[] #[]] w (SortedPost sl l w) := by
  rcases hown.2 with ⟨rfl, h0⟩ | ⟨g, cap, cur, rfl, _⟩
  · have e : l = [] := List.length_eq_zero_iff.1 h0
    subst e
    refine (sort_none _ w).mono ?_
    rintro e w' ⟨rfl, rfl⟩
    exact ⟨rfl, KeepsBut.refl _ _, [], List.Perm.refl _, (fun i j _ hj => by cases hj), snaps_nil _⟩
  · refine (sort_any base l g cap w hown hl).mono ?_
    rintro e w' ⟨rfl, hk, l', h1, h2, h3⟩
    exact ⟨rfl, hk.mono (fun k hk => by rw [hk]; rfl), l', h1, h2, h3⟩

theorem res19 {W : World} {b : Nat} {c : Int} {v0 v1 v2 v3 v4 v5 v6 : Value} {tmps : Array Value} (h : W.heap[b]? = some (.cells #[v0, v1, v2, v3, v4, v5, v6] 29 (0, 0)))
    (h2 : tmps[4]? = some (.pointer (some ⟨b, 0, none⟩))) (h3 : tmps[5]? = some (.int .i64 c)) :
    (results Try.f19 tmps).run Try.prog W = .ok (.tuple #[.agg #[v0, v1, v2, v3, v4, v5, v6], .int .i64 c]) W := by
  obtain ⟨k0, k1, k2, k3, k4, k5, k6⟩ := cells7 h
  simp [results, Try.results19, go_sem, h2, h3, k0, k1, k2, k3, k4, k5, k6]

theorem with_fits {m : Man} {l t : List Snp} (hf : Fits m) (hl : ∀ x ∈ l, x.name.size ≤ 140737488351232) (hm : m.snaps.length + l.length ≤ 1000000) (hp : t.Perm (m.snaps ++ l)) : Fits (m.with t).up := by
  refine ⟨hf.vol, hf.bvol, ?_, ?_⟩
  · show t.length ≤ _
    have := hp.length_eq
    rw [List.length_append] at this
    omega
  · intro x hx
    rcases List.mem_append.1 (hp.mem_iff.1 hx) with h | h
    · exact hf.names x h
    · exact hl x h

theorem grown_at {w w' : World} {row : Option Nat} {b : Nat} {x o : Obj} (hg : (w.alloc o).grownBy w' row) (h : w.heap[b]? = some x) (hne : row ≠ some b) : w'.heap[b]? = some x := by
  have hb := World.lt_of_heap h
  exact (hg.block b (by simp; omega) (fun e => hne e.symm)).trans ((Below.heap_alloc w _ _ hb).trans h)

theorem below_grown {n : Nat} {a w w' : World} {row : Option Nat} {o : Obj} (h : Below n a w) (hn : n ≤ w.heap.size) (hg : (w.alloc o).grownBy w' row) (hr : ∀ k, row = some k → n ≤ k) : Below n a w' :=
  (h.alloc hn o).grown hg (by simp; omega) hr

/-- As ManPost, and the snapshots lie where they lay. -/
def NextPost (l : Man × Int) (sv0 : Value) (w : World) (e : Ending) (w' : World) : Prop :=
  ∃ sv, e = .returned (.tuple #[l.1.val sv, .int .i64 l.2]) ∧ SnapsAt w' sv l.1.snaps ∧ Below w.heap.size w w' ∧ (sv = sv0 ∨ l.1.snaps = [])

theorem snaps_none {w : World} {a : Option Addr} {cap : Nat} {l : List Snp} (h : l = []) : SnapsAt w (.slice a l.length cap) l := ⟨a, cap, rfl, fun i hi => by rw [h] at hi; cases hi⟩

set_option maxHeartbeats 2000000 in
set_option maxRecDepth 100000 in
theorem next_sv (m : Man) (sv : Value) (w : World) (hf : Fits m.up) (hS : SnapsAt w sv m.snaps) (h0 : -9223372036854775808 ≤ m.serial) (h1 : m.serial < 9223372036854775807) :
    Calls Try.prog 52 #[m.val sv] w (NextPost (turned m.up) sv w) := by
  have HC : Hid (∀ W, SnapsAt W sv m.snaps → Calls Try.prog 33 #[m.up.val sv] W fun e w' => e = .returned (.int .i64 (chk m.up)) ∧ Below W.heap.size W w') := fun W hW => check_any m.up sv W hf hW
  have HP : Hid (∀ e w', (if chk m.up = 0 then NextPost (m.up, 0) sv w e w' else NextPost (Man.zero, chk m.up) sv w e w') → NextPost (turned m.up) sv w e w') := fun e w' h => by
    unfold turned
    split at h
    · rename_i h0; rw [if_pos h0]; exact h
    · rename_i h0; rw [if_neg h0]; exact h
  have HU : Hid (m.up.snaps = m.snaps) := rfl
  generalize chk m.up = c at HC HP
  obtain ⟨R, hR⟩ : ∃ R, R = NextPost (turned m.up) sv w := ⟨_, rfl⟩
  rw [← hR] at HP ⊢
  clear hR
  obtain ⟨v, key, serial, size, bv, bs, l⟩ := m
  simp only [Man.up, Man.val] at *
  have HSS := Lib.hid hS
  obtain ⟨sa, scap, rfl, _⟩ := hS
  have hS := HSS.out
  obtain ⟨W1, hW1⟩ : ∃ W0, W0 = (w.alloc (.cells #[.string v, .int .u64 key, .int .i64 (serial + 1), .int .i64 size, .string bv, .int .i64 bs, .slice sa l.length scap] 29)).alloc (.cells #[.string ⟨#[]⟩, .int .u64 0, .int .i64 0, .int .i64 0, .string ⟨#[]⟩, .int .i64 0, .slice none 0 0] 29) := ⟨_, rfl⟩
  obtain ⟨hA1, hB1, hb1, hz1⟩ := two_new w #[.string v, .int .u64 key, .int .i64 (serial + 1), .int .i64 size, .string bv, .int .i64 bs, .slice sa l.length scap] #[.string ⟨#[]⟩, .int .u64 0, .int .i64 0, .int .i64 0, .string ⟨#[]⟩, .int .i64 0, .slice none 0 0] 29 29
  rw [← hW1] at hA1 hB1 hb1 hz1
  have hS1 := Snaps_later hb1 hS
  have HW1 := Lib.hid hW1
  have HA1 := Lib.hid hA1
  have HB1 := Lib.hid hB1
  have HBL1 := Lib.hid hb1
  have HS1 := Lib.hid hS1
  have HZ1 := Lib.hid hz1
  clear hA1 hB1 hb1 hS1 hz1 hW1
  go_enter Try.func52, Try.ntmps52
  go_wp2_with fail
  rw [← HW1.out]
  refine (HC.out W1 HS1.out).mono ?_
  rintro e w2 ⟨rfl, hb2⟩
  have hA2 := later hb2 HA1.out
  have hB2 := later hb2 HB1.out
  have hS2 := Snaps_later hb2 HS1.out
  have hbl2 := below_on HBL1.out hb2
  have hz2 := hb2.size
  rw [HZ1.out] at hz2
  obtain ⟨x0, x1, x2, x3, x4, x5, x6⟩ := cells7 hA2
  have fb := frozen_of_heap hB2
  obtain ⟨y0, y1, y2, y3, y4, y5, y6⟩ := cells7 hB2
  have HB2 := Lib.hid hB2
  have HS2 := Lib.hid hS2
  have HBL2 := Lib.hid hbl2
  clear hA2 hB2 hb2 hS2 hbl2
  by_cases hc : c = 0
  · subst hc
    go_wp2
    obtain ⟨g1, g2⟩ := seven HB2.out (.string v) (.int .u64 key) (.int .i64 (serial + 1)) (.int .i64 size) (.string bv) (.int .i64 bs) (.slice sa l.length scap)
    refine leaveB (res52 g1 rfl rfl) (HP.out _ _ ?_)
    rw [if_pos trivial]
    have hb := below_seven HBL2.out (w.heap.size + 1) (by omega) (.string v) (.int .u64 key) (.int .i64 (serial + 1)) (.int .i64 size) (.string bv) (.int .i64 bs) (.slice sa l.length scap)
    exact ⟨_, rfl, Snaps_later hb HSS.out, hb, .inl rfl⟩
  · have hcf : (c != 0) = true := by simp [hc]
    go_wp2
    obtain ⟨g1, g2⟩ := seven HB2.out (.string ⟨#[]⟩) (.int .u64 0) (.int .i64 0) (.int .i64 0) (.string ⟨#[]⟩) (.int .i64 0) (.slice none 0 0)
    refine leaveB (res52 g1 rfl rfl) (HP.out _ _ ?_)
    rw [if_neg hc]
    exact ⟨_, rfl, snaps_nil _, below_seven HBL2.out (w.heap.size + 1) (by omega) _ _ _ _ _ _ _, .inr rfl⟩
end Go.Proofs.Ytmkcphelmgkipaa
