import Derived.Test.YtmkcphelmgkipaaT10
import Derived.Test.YtmkcphelmgkipaaRangeX
import Derived.Shelf.Abstract
import Derived.Shelf.RegionOpen
import Derived.OwnWalkIn
import Derived.TacticsInMore
import Derived.LoopNIn
import Derived.LoopIn
set_option linter.unusedVariables false
set_option linter.unusedSimpArgs false
namespace Go.Proofs.Ytmkcphelmgkipaa
open Go.RowKit Go.Shelf
attribute [local go_sem] Oper.semAt_some

theorem KeepsBut.later {X : Nat → Prop} {A B C : World} (h : KeepsBut X A B) (k : Below A.heap.size B C) : KeepsBut X A C :=
  ⟨k.os.trans h.os, k.tape.trans h.tape, k.output.trans h.output, Nat.le_trans h.size k.size, fun i hi hx => (k.block i hi).trans (h.block i hi hx)⟩

/-- A snapshot. -/
structure Snp where
  name : ByteArray
  seq : Int
  upto : Int

/-- The zero one. -/
def Snp.zero : Snp := ⟨⟨#[]⟩, 0, 0⟩
def Snp.val (x : Snp) : Value := .agg #[.string x.name, .int .i64 x.seq, .int .i64 x.upto]

/-- The slice value sv holds the snapshots l. -/
def SnapsAt (w : World) (sv : Value) (l : List Snp) : Prop :=
  ∃ a cap, sv = .slice a l.length cap ∧ ∀ i, i < l.length → ∃ b off, a = some ⟨b, off, none⟩ ∧
    w.cell? ⟨b, off + i * 3, none⟩ = some (.string (l.getD i Snp.zero).name) ∧ w.cell? ⟨b, off + i * 3 + 1, none⟩ = some (.int .i64 (l.getD i Snp.zero).seq) ∧ w.cell? ⟨b, off + i * 3 + 2, none⟩ = some (.int .i64 (l.getD i Snp.zero).upto)

/-- Each of the first k snapshots, with the one ahead. -/
def prs (l : List Snp) : Nat → List (Snp × Snp)
  | 0 => []
  | k + 1 => prs l k ++ [((if k = 0 then Snp.zero else l.getD (k - 1) Snp.zero), l.getD k Snp.zero)]
theorem prs_length (l : List Snp) (k : Nat) : (prs l k).length = k := by induction k <;> simp [prs, *]

set_option maxHeartbeats 1000000 in
set_option maxRecDepth 100000 in
theorem pairs_any (a : Option Addr) (len cap : Nat) (w : World) :
    Calls Try.prog 67 #[.slice a len cap] w fun e w' => e = .returned (.func (.func 84) #[] #[.pointer (some ⟨w.heap.size, 0, none⟩)]) ∧ w' = w.alloc (.cells #[.slice a len cap] 27) := by
  go_enter Try.func67, Try.ntmps67
  go_wp2
  go_ret
  exact ⟨rfl, rfl⟩

set_option maxHeartbeats 2000000 in
set_option maxRecDepth 100000 in
theorem pairs_seq (Bs cap : Nat) (a : Option Addr) (l : List Snp) (w : World) (hlen : l.length ≤ 140737488351232) (hBs : w.cell? ⟨Bs, 0, none⟩ = some (.slice a l.length cap)) (hI : SnapsAt w (.slice a l.length cap) l) :
    SeqX Try.prog 84 #[.pointer (some ⟨Bs, 0, none⟩)] (fun x : Snp × Snp => #[x.1.val, x.2.val]) (fun k => k ≠ Bs ∧ ∀ b off, 0 < l.length → a = some ⟨b, off, none⟩ → k ≠ b)
      (fun ys => ys = prs l l.length) (fun pre => ∃ k, k ≤ l.length ∧ pre = prs l k) l.length w := by
  intro n lp X J Jx W hW hX hJ hJx hY h0
  have hBs' : W.cell? ⟨Bs, 0, none⟩ = some (.slice a l.length cap) := (hW.cell (World.block_lt_of_cell? _ _ hBs)).trans hBs
  have hBlt : Bs < W.heap.size := by have := World.block_lt_of_cell? _ _ hBs'; exact this
  refine callsIn_of_wp Try.func84 rfl trivial ?_ wide_round
  simp only [Try.ntmps84, List.size_toArray, List.length_cons, List.length_nil, Nat.reduceAdd, Nat.reduceSub, Array.replicate_succ, Array.replicate_zero, List.push_toArray, List.append_toArray, List.nil_append, List.cons_append]
  gi_wp2
  gi_loopw [8] (fun i wr => ∃ k : Nat, k ≤ l.length ∧ i = .int .i64 k ∧ J (prs l k) wr ∧ KeepsBut X W wr ∧ W.heap.size < wr.heap.size ∧
      wr.heap[W.heap.size]? = some (.cells #[.string (if k = 0 then Snp.zero else l.getD (k - 1) Snp.zero).name, .int .i64 (if k = 0 then Snp.zero else l.getD (k - 1) Snp.zero).seq, .int .i64 (if k = 0 then Snp.zero else l.getD (k - 1) Snp.zero).upto] 56 (0, 0)))
    (fun i _ => l.length - (intOf i).toNat)
  case atStart =>
    refine ⟨0, Nat.zero_le _, rfl, hJ _ _ _ h0 ((Below.refl _ W).alloc (Nat.le_refl _) _), KeepsBut.of_below ((Below.refl _ W).alloc (Nat.le_refl _) _), by simp, ?_⟩
    exact heap_alloc_new W _
  case round =>
    obtain ⟨k, hk, rfl, hJs, hkb, hsz, hlast⟩ := hrel
    by_cases hlt : k < l.length
    · obtain ⟨px, hpx⟩ : ∃ px, px = (if k = 0 then Snp.zero else l.getD (k - 1) Snp.zero) := ⟨_, rfl⟩
      rw [← hpx] at hlast
      obtain ⟨x, hx⟩ : ∃ x, x = l.getD k Snp.zero := ⟨_, rfl⟩
      have hprs : prs l (k + 1) = prs l k ++ [(px, x)] := by rw [hpx, hx]; rfl
      have hnext : (if k + 1 = 0 then Snp.zero else l.getD (k + 1 - 1) Snp.zero) = x := by rw [hx, if_neg (by omega)]; rfl
      obtain ⟨a', cap', ha, hcs⟩ := hI
      simp only [Value.slice.injEq] at ha
      obtain ⟨rfl, _, rfl⟩ := ha
      obtain ⟨b, off, rfl, hc0, hc1, hc2⟩ := hcs k hlt
      rw [← hx] at hc0 hc1 hc2
      have hbw : b < w.heap.size := World.block_lt_of_cell? _ _ hc0
      have hbX : ¬ X b := fun h => (hX b h).1.2 b off (by omega) rfl rfl
      have hbW : b < W.heap.size := by have := hW.size; omega
      have hd0 := (hkb.cell (p := ⟨b, off + k * 3, none⟩) hbW hbX).trans ((hW.cell (p := ⟨b, off + k * 3, none⟩) hbw).trans hc0)
      have hd1 := (hkb.cell (p := ⟨b, off + k * 3 + 1, none⟩) hbW hbX).trans ((hW.cell (p := ⟨b, off + k * 3 + 1, none⟩) hbw).trans hc1)
      have hd2 := (hkb.cell (p := ⟨b, off + k * 3 + 2, none⟩) hbW hbX).trans ((hW.cell (p := ⟨b, off + k * 3 + 2, none⟩) hbw).trans hc2)
      have he0 : wr.cell? ⟨W.heap.size, 0, none⟩ = some (.string px.name) := by simp [World.cell?, hlast]
      have he1 : wr.cell? ⟨W.heap.size, 1, none⟩ = some (.int .i64 px.seq) := by simp [World.cell?, hlast]
      have he2 : wr.cell? ⟨W.heap.size, 2, none⟩ = some (.int .i64 px.upto) := by simp [World.cell?, hlast]
      have HP := Lib.hid hprs
      have HN := Lib.hid hnext
      have HL := Lib.hid hlast
      have HC := Lib.hid hcs
      have HX := Lib.hid hX
      have HJ := Lib.hid hJ
      have HJX := Lib.hid hJx
      have HKB := Lib.hid hkb
      clear hprs hnext hlast hpx hx hc0 hc1 hc2 hcs
      obtain ⟨fn, tmps, assign, body, hy, hR⟩ := hY _ (px, x) (wr.alloc (.cells #[.string x.name, .int .i64 x.seq, .int .i64 x.upto] 56)) (hJ _ _ _ hJs ((Below.refl W.heap.size wr).alloc (by omega) _)) (by rw [prs_length]; exact hlt) (by simp; omega)
      dsimp only [Snp.val] at hy
      gi_wp2
      refine ⟨fun h => by simp [Fence.wide] at h, ?_⟩
      refine hR.mono ?_
      rintro e W3 (⟨rfl, hJ3, hk3⟩ | ⟨rfl, hJx3⟩)
      · have nL : ¬ X W.heap.size := fun h => by have := (HX.out _ h).2; omega
        have nB : ¬ X wr.heap.size := fun h => by have := (HX.out _ h).2; omega
        have hL3 : W3.heap[W.heap.size]? = some (.cells #[.string px.name, .int .i64 px.seq, .int .i64 px.upto] 56 (0, 0)) := by
          rw [hk3.block _ (by simp; omega) nL, Below.heap_alloc _ _ _ hsz]; exact HL.out
        have hB3 : W3.heap[wr.heap.size]? = some (.cells #[.string x.name, .int .i64 x.seq, .int .i64 x.upto] 56 (0, 0)) := by
          rw [hk3.block _ (by simp) nB]; exact heap_alloc_new wr _
        have f0 : W3.cell? ⟨W.heap.size, 0, none⟩ = some (.string px.name) := by simp [World.cell?, hL3]
        have f1 : W3.cell? ⟨W.heap.size, 1, none⟩ = some (.int .i64 px.seq) := by simp [World.cell?, hL3]
        have f2 : W3.cell? ⟨W.heap.size, 2, none⟩ = some (.int .i64 px.upto) := by simp [World.cell?, hL3]
        have z0 : ∀ j, W3.frozen? ⟨W.heap.size, j, none⟩ = false := by intro j; simp [World.frozen?, hL3]
        have z00 := z0 0
        have z01 := z0 1
        have z02 := z0 2
        have g0 : W3.cell? ⟨wr.heap.size, 0, none⟩ = some (.string x.name) := by simp [World.cell?, hB3]
        have g1 : W3.cell? ⟨wr.heap.size, 1, none⟩ = some (.int .i64 x.seq) := by simp [World.cell?, hB3]
        have g2 : W3.cell? ⟨wr.heap.size, 2, none⟩ = some (.int .i64 x.upto) := by simp [World.cell?, hB3]
        have HL3 := Lib.hid hL3
        have HK3 := Lib.hid hk3
        have HJ3 := Lib.hid hJ3
        have hne : W.heap.size ≠ wr.heap.size := by omega
        clear z0 hL3 hB3 hk3 hJ3
        gi_wp2
        have hbl : Below W.heap.size W3 (((W3.setCell ⟨W.heap.size, 0, none⟩ (.string x.name)).setCell ⟨W.heap.size, 1, none⟩ (.int .i64 x.seq)).setCell ⟨W.heap.size, 2, none⟩ (.int .i64 x.upto)) :=
          (((Below.refl _ W3).setCell (p := ⟨W.heap.size, 0, none⟩) (Nat.le_refl _) _).setCell (p := ⟨W.heap.size, 1, none⟩) (Nat.le_refl _) _).setCell (p := ⟨W.heap.size, 2, none⟩) (Nat.le_refl _) _
        have hk4 := (HKB.out.trans (KeepsBut.of_below ((Below.refl wr.heap.size wr).alloc (Nat.le_refl _) _))).trans HK3.out
        refine ⟨⟨k + 1, by omega, by go_num, by rw [HP.out]; exact HJ.out _ _ _ HJ3.out hbl, hk4.later hbl, ?_, ?_⟩, by simp [intOf]; omega⟩
        · have h1 := HK3.out.size
          have h2 := hbl.size
          simp only [World.size_alloc] at h1
          omega
        · rw [HN.out]
          have e1 := heap_setCell_same W3 W.heap.size 0 _ 56 (.string x.name) HL3.out
          have e2 := heap_setCell_same _ W.heap.size 1 _ 56 (.int .i64 x.seq) e1
          have e3 := heap_setCell_same _ W.heap.size 2 _ 56 (.int .i64 x.upto) e2
          rw [e3]; rfl
      · gi_wp2
        refine bodyPost_ret (results_none rfl _ _ _) rfl ?_
        exact ⟨⟨_, rfl⟩, .inr ⟨_, ⟨k + 1, by omega, rfl⟩, by rw [HP.out]; exact hJx3⟩⟩
    · obtain rfl : k = l.length := by omega
      gi_wp2
      go_end0
      exact ⟨⟨_, rfl⟩, .inl ⟨_, rfl, hJs⟩⟩
end Go.Proofs.Ytmkcphelmgkipaa
