import Derived.Test.YtmkcphelmgkipaaT5
import Derived.Test.YtmkcphelmgkipaaPure2
import Derived.Test.YtmkcphelmgkipaaShelf
import Derived.Lib.AppendStr
import Derived.Maps.AppendAt
set_option linter.unusedVariables false
set_option linter.unusedSimpArgs false
namespace Go.Proofs.Ytmkcphelmgkipaa
open Go.RowKit

set_option maxHeartbeats 400000 in
set_option maxRecDepth 100000 in
theorem size_any (x : Int) (h0 : 0 ≤ x) (h1 : x < 18446744073709551616) (w : World) :
    Calls Try.prog 73 #[.int .u64 x] w fun e w' => e = .returned (.int .i64 (vsz x.toNat)) ∧ w = w' := by
  have hb : Lib.bitLen x.toNat ≤ 64 := Lib.bitLen_le _ 64 (by omega) (by omega)
  have HV := Lib.hid (vsz_eq x.toNat (by omega))
  have HL := Lib.hid (Try.bits_Len64 x w h0 (by omega))
  generalize Lib.bitLen x.toNat = b at *
  go_enter Try.func73, Try.ntmps73
  go_wp2_with (go_at_call 87; refine HL.out.mono ?_; rintro e w' ⟨rfl, rfl⟩)
  go_ret
  exact ⟨ret_int (by have := HV.out; show min (max (((b : Int) + 7 - 1) / 7) 1) 9 = _; omega), rfl⟩

theorem head_val : ∀ n : Fin 10, 1 ≤ n.val → bits BinOp.xor IntKind.u8 IntKind.u8.max (255 / 2 ^ (n.val - 1)) = (hd n.val : Int) := by decide +kernel

set_option maxHeartbeats 400000 in
set_option maxRecDepth 100000 in
theorem head_any (n : Nat) (h0 : 1 ≤ n) (h1 : n ≤ 9) (w : World) :
    Calls Try.prog 74 #[.int .i64 n] w fun e w' => e = .returned (.int .u8 (hd n)) ∧ w = w' := by
  go_enter Try.func74, Try.ntmps74
  go_wp2
  go_ret
  exact ⟨ret_int (head_val ⟨n, by omega⟩ h0), rfl⟩

/-- The bytes written so far: the place o holds the slice v, which owns them. -/
def OutAt (w : World) (o : Nat) (v : Value) (l : List UInt8) : Prop :=
  w.heap[o]? = some (.cells #[v] 85 (0, 0)) ∧ w.ownsRow (o + 1) 5 1 v l.length (bvals l)

/-- From w to w' the place o alone was written on, and the row of v, and new blocks. -/
structure OutTo (w w' : World) (o : Nat) (v : Value) : Prop where
  os : w'.os = w.os
  tape : w'.tape = w.tape
  output : w'.output = w.output
  size : w.heap.size ≤ w'.heap.size
  block : ∀ k, k < w.heap.size → k ≠ o → some k ≠ v.ownBlock → w'.heap[k]? = w.heap[k]?

def Stays (w : World) (v v' : Value) : Prop := v'.ownBlock = v.ownBlock ∨ ∃ g, v'.ownBlock = some g ∧ w.heap.size ≤ g

theorem OutTo.refl (w : World) (o : Nat) (v : Value) : OutTo w w o v := ⟨rfl, rfl, rfl, Nat.le_refl _, fun _ _ _ _ => rfl⟩

theorem OutTo.trans {a b c : World} {o : Nat} {v v' : Value} (h : OutTo a b o v) (k : OutTo b c o v') (hs : Stays a v v') : OutTo a c o v :=
  ⟨k.os.trans h.os, k.tape.trans h.tape, k.output.trans h.output, Nat.le_trans h.size k.size, fun i hi h1 h2 =>
    (k.block i (by have := h.size; omega) h1 (by
      rcases hs with e | ⟨g, e, hg⟩
      · rw [e]; exact h2
      · rw [e]; intro e'; cases e'; omega)).trans (h.block i hi h1 h2)⟩

theorem Stays.refl (w : World) (v : Value) : Stays w v v := .inl rfl
theorem Stays.trans {a b : World} {v v' v'' : Value} (h : Stays a v v') (k : Stays b v' v'') (hs : a.heap.size ≤ b.heap.size) : Stays a v v'' := by
  rcases k with e | ⟨g, e, hg⟩
  · rcases h with e' | ⟨g, e', hg⟩
    · exact .inl (e.trans e')
    · exact .inr ⟨g, e.trans e', hg⟩
  · exact .inr ⟨g, e, by omega⟩

theorem OutTo.below {a b : World} {o : Nat} {v : Value} (h : OutTo a b o v) (hv : ∀ k, v.ownBlock = some k → o < k) (ho : o < a.heap.size) : Below o a b :=
  ⟨h.os, h.tape, h.output, h.size, fun k hk => h.block k (by omega) (by omega) (fun e => by have := hv k e.symm; omega)⟩

theorem OutAt.lt {w : World} {o : Nat} {v : Value} {l : List UInt8} (h : OutAt w o v l) : o < w.heap.size := (Array.getElem?_eq_some_iff.1 h.1).1
theorem OutAt.own {w : World} {o : Nat} {v : Value} {l : List UInt8} (h : OutAt w o v l) : ∀ k, v.ownBlock = some k → o < k := fun k e => (h.2.lt k e).1
theorem OutAt.own_lt {w : World} {o : Nat} {v : Value} {l : List UInt8} (h : OutAt w o v l) : ∀ k, v.ownBlock = some k → k < w.heap.size := fun k e => (h.2.lt k e).2

theorem OutAt.cell {w : World} {o : Nat} {v : Value} {l : List UInt8} (h : OutAt w o v l) : w.cell? ⟨o, 0, none⟩ = some v := by simp [World.cell?, h.1]
theorem OutAt.frozen {w : World} {o : Nat} {v : Value} {l : List UInt8} (h : OutAt w o v l) : w.frozen? ⟨o, 0, none⟩ = false := by simp [World.frozen?, h.1]

/-- Behind an append, and the store of what it gave. -/
theorem out_append {w wm w1 : World} {o : Nat} {v v' : Value} {l m : List UInt8} {n : Nat} (h : OutAt w o v l) (hm : Below w.heap.size w wm) (hn : n = (l ++ m).length)
    (hown : w1.ownsRow (o + 1) 5 1 v' n (bvals (l ++ m))) (hg : wm.grownBy w1 v.ownBlock) :
    w1.cell? ⟨o, 0, none⟩ = some v ∧ w1.frozen? ⟨o, 0, none⟩ = false ∧ OutAt (w1.setCell ⟨o, 0, none⟩ v') o v' (l ++ m) ∧ OutTo w (w1.setCell ⟨o, 0, none⟩ v') o v := by
  have ho := h.lt
  have hw1 : w1.heap[o]? = some (.cells #[v] 85 (0, 0)) := by
    rw [hg.block o (by have := hm.size; omega) (fun e => by have := h.own o e.symm; omega), hm.block o ho]; exact h.1
  refine ⟨by simp [World.cell?, hw1], by simp [World.frozen?, hw1], ⟨?_, ?_⟩, ?_⟩
  · simp only [World.setCell, Array.getElem?_modify, if_pos]
    rw [hw1]; rfl
  · subst hn
    refine ⟨hown.1, ?_⟩
    rcases hown.2 with e | ⟨g, cap, cur, e1, e2, e3, e4⟩
    · exact .inl e
    · refine .inr ⟨g, cap, cur, e1, e2, ?_, e4⟩
      rw [Below.heap_setCell _ _ _ _ (by show g ≠ o; omega)]; exact e3
  · refine ⟨hg.os.trans hm.os, hg.tape.trans hm.tape, hg.output.trans hm.output, ?_, fun k hk h1 h2 => ?_⟩
    · have := hg.size; have := hm.size; simp [World.setCell]; omega
    · rw [Below.heap_setCell _ _ _ _ h1, hg.block k (by have := hm.size; omega) h2, hm.block k hk]

theorem stays_of {w : World} {v v' : Value} {n : Nat} (h : v'.ownBlock = v.ownBlock ∨ v'.ownBlock = some n) (hs : w.heap.size ≤ n) : Stays w v v' := by
  rcases h with e | e
  · exact .inl e
  · exact .inr ⟨_, e, hs⟩

theorem owns_form {w : World} {base e size n : Nat} {v : Value} {xs : List Value} (h : w.ownsRow base e size v n xs) (hn : n ≠ 0) : ∃ g cap, v = .slice (some ⟨g, 0, none⟩) n cap := by
  rcases h.2 with ⟨_, e⟩ | ⟨g, cap, cur, e1, _⟩
  · exact absurd e hn
  · exact ⟨g, cap, e1⟩

set_option maxHeartbeats 400000 in
set_option maxRecDepth 100000 in
theorem put_any (o n : Nat) (x : Int) (v : Value) (l : List UInt8) (h0 : 0 ≤ x) (h1 : x < 18446744073709551616) (hn : n ≤ 8) (hl : l.length ≤ 70368744177664) (w : World) (hO : OutAt w o v l) :
    Calls Try.prog 72 #[.pointer (some ⟨o, 0, none⟩), .int .u64 x, .int .i64 n] w fun e w' => e = .returned (.tuple #[]) ∧
      ∃ v', OutAt w' o v' (l ++ be x.toNat n) ∧ OutTo w w' o v ∧ Stays w v v' := by
  obtain ⟨i0, hi, hz0, hz1, hz2⟩ := info_parts Try.info5
  go_enter Try.func72, Try.ntmps72
  go_wp2
  go_loopw [6] (fun i wr => ∃ (k : Nat) (pre : List UInt8) (u : Value), k ≤ n ∧ i = .int .i64 ((k : Int) - 1) ∧ pre ++ be x.toNat k = be x.toNat n ∧ OutAt wr o u (l ++ pre) ∧ OutTo w wr o v ∧ Stays w v u)
    (fun i _ => (intOf i + 1).toNat)
  case atStart => exact ⟨n, [], v, Nat.le_refl _, rfl, rfl, by simpa using hO, OutTo.refl _ _ _, Stays.refl _ _⟩
  case round =>
    obtain ⟨k, pre, u, hk, rfl, hpre, hu, hto, hst⟩ := hrel
    have HP := Lib.hid hpre; clear hpre
    cases k with
    | zero =>
      go_wp2
      go_end0
      have := HP.out
      simp only [be, List.append_nil] at this
      rw [this] at hu
      exact ⟨rfl, u, hu, hto, hst⟩
    | succ k =>
      have e : ((k + 1 : Nat) : Int) - 1 = k := by omega
      rw [e]; clear e
      have hc := hu.cell
      have hplen : pre.length + (k + 1) = n := by have := congrArg List.length HP.out; simpa [be_length] using this
      have hy0 : 0 ≤ x / 2 ^ (8 * k) := Int.ediv_nonneg h0 (Int.pow_nonneg (by omega))
      have HB : Hid (be x.toNat (k + 1) = UInt8.ofNat (x / 2 ^ (8 * k) % 256).toNat :: be x.toNat k) := by
        obtain ⟨y, rfl⟩ := Int.eq_ofNat_of_zero_le h0
        have e2 : ((2 : Int) ^ (8 * k)) = ((256 ^ k : Nat) : Int) := by rw [Int.pow_mul]; simp
        show UInt8.ofNat _ :: _ = _
        rw [e2]
        congr 2
      go_wp2_with (at_builtin; refine wpList_append_own_at _ rfl _ _ 52 rfl (o + 1) 5 i0 (.int .u8 0) 1 1 Try.underlying52 hi hz0 hz1 hz2 rfl (by decide) _ _ _ rfl (hu.2.alloc _) ⟨wr.heap.size, 0, none⟩ 1 1 [.int .u8 (x / 2 ^ (8 * k) % 256)] rfl rfl ?c1 ?c2 ?c3 ?c4 ?c5 ?_)
      case c1 => exact cell_one_new _ _ _
      case c2 => intro u hu; simp at hu; subst hu; rfl
      case c3 => simp [maxLen]; omega
      case c4 => simp; omega
      case c5 => have := hu.lt; simp; omega
      intro u' w1 hown' hgrow _ hat
      obtain ⟨g', cap', rfl⟩ := owns_form hown' (by omega)
      have hst' := stays_of (w := wr) hat (by omega)
      rw [byte_val (x / 2 ^ (8 * k) % 256) (by omega) (by omega)] at hown'
      have hO' := out_append (m := [UInt8.ofNat (x / 2 ^ (8 * k) % 256).toNat]) hu ((Below.refl wr.heap.size wr).alloc (Nat.le_refl _) _) (n := l.length + pre.length + 1) (by simp; omega) (by rw [bvals_append]; exact hown') hgrow
      have hc1 := hO'.1
      have hf1 := hO'.2.1
      have HO := Lib.hid hO'.2.2
      clear hO' hown' hgrow hat
      go_wp2
      go_roundw
      case rel =>
        refine ⟨k, pre ++ [UInt8.ofNat (x / 2 ^ (8 * k) % 256).toNat], _, by omega, rfl, ?_, ?_, hto.trans HO.out.2 hst, hst.trans hst' hto.size⟩
        · rw [← HP.out, HB.out]; simp
        · rw [← List.append_assoc]; exact HO.out.1
      case measure => simp [intOf]
end Go.Proofs.Ytmkcphelmgkipaa
