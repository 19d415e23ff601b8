import Derived.Test.YtmkcphelmgkipaaT49
import Derived.Test.YtmkcphelmgkipaaT34
import Derived.Laws.AppendOwnNone
import Derived.Outline
set_option linter.unusedVariables false
set_option linter.unusedSimpArgs false
namespace Go.Proofs.Ytmkcphelmgkipaa
open Go.RowKit
attribute [local go_sem ↓] Go.wp_at_zero Go.wp_at_succ

/-! A slice of snapshots cloned. -/

/-- A slice's capacity is one that may be. -/
def CapOk (sv : Value) (n : Nat) : Prop := ∃ a cap, sv = .slice a n cap ∧ (a = none → cap = 0) ∧ n ≤ cap ∧ cap ≤ maxLen

theorem snaps_news {w : World} {ad : Addr} {cap : Nat} {l : List Snp} (h : SnapsAt w (.slice (some ad) l.length cap) l) : ∀ j u, (rowVals l)[j]? = some u → w.cell? (ad.add j) = some u := by
  intro j u hj
  obtain ⟨a, c, e, hc⟩ := h
  have hjl : j < l.length * 3 := by
    have := (List.getElem?_eq_some_iff.1 hj).1
    rwa [rowVals_length] at this
  have hi : j / 3 < l.length := by omega
  obtain ⟨b, off, ha, h0, h1, h2⟩ := hc (j / 3) hi
  injection e with e1
  rw [← e1] at ha
  injection ha with ha
  subst ha
  rw [WideShapes.add_plain]
  have hr := rowVals_at l (j / 3) (j % 3) hi (by omega)
  have e3 : j / 3 * 3 + j % 3 = j := by omega
  rw [e3, hj] at hr
  have h3 : j % 3 = 0 ∨ j % 3 = 1 ∨ j % 3 = 2 := by omega
  rcases h3 with h3 | h3 | h3
  · rw [h3] at hr
    simp [snapVals] at hr
    rw [show off + j = off + j / 3 * 3 by omega, hr]; exact h0
  · rw [h3] at hr
    simp [snapVals] at hr
    rw [show off + j = off + j / 3 * 3 + 1 by omega, hr]; exact h1
  · rw [h3] at hr
    simp [snapVals] at hr
    rw [show off + j = off + j / 3 * 3 + 2 by omega, hr]; exact h2

theorem rowVals_one (l : List Snp) : ∀ u ∈ rowVals l, u.oneCell' = true := by
  intro u hu
  unfold rowVals at hu
  rw [List.mem_flatten] at hu
  obtain ⟨r, hr, hur⟩ := hu
  obtain ⟨x, _, rfl⟩ := List.mem_map.1 hr
  simp [snapVals] at hur
  rcases hur with rfl | rfl | rfl <;> rfl

theorem Try.info56x : (Try.prog.info? 56).map (fun i => (i.zero, i.size, i.bytes)) = some (some (.agg #[.string ⟨#[]⟩, .int .i64 0, .int .i64 0]), 3, 32) := by kernel_rfl

def ClonePost (l : List Snp) (w : World) (e : Ending) (w' : World) : Prop := ∃ sv', e = .returned sv' ∧ w'.ownsRow w.heap.size 56 3 sv' l.length (rowVals l) ∧ Below w.heap.size w w'

set_option maxHeartbeats 2000000 in
set_option maxRecDepth 100000 in
theorem clone_any (l : List Snp) (sv : Value) (w : World) (h : SnapsAt w sv l) (hl : l.length ≤ 1000000) :
    Calls Try.prog 47 #[sv] w (ClonePost l w) := by
  have HS := Lib.hid h
  obtain ⟨a, cap, rfl, _⟩ := h
  obtain ⟨i0, hi, hy0, hy1, hy2⟩ := info_parts Try.info56x
  cases a with
  | none =>
    have hl0 : l = [] := by
      cases l with
      | nil => rfl
      | cons x l => obtain ⟨_, _, e, hc⟩ := HS.out; obtain ⟨b, off, ha, _⟩ := hc 0 (by simp); injection e with e1; rw [← e1] at ha; cases ha
    subst hl0
    have hq : ∀ W, Sem.run Try.prog (binOp .eql 27 (.slice none 0 cap) (.slice none 0 0)) W = .ok (.bool true) W := fun W => Lib.run_eql_slice_nil W 27 56 none 0 cap 0 0 Try.underlying27
    go_enter Try.func47, Try.ntmps47
    go_wp2
    go_ret
    exact ⟨_, rfl, World.ownsRow_nil _ _ _ _, Below.refl _ _⟩
  | some ad =>
    have hq : ∀ W, Sem.run Try.prog (binOp .eql 27 (.slice (some ad) l.length cap) (.slice none 0 0)) W = .ok (.bool false) W := fun W => Lib.run_eql_slice_nil W 27 56 (some ad) l.length cap 0 0 Try.underlying27
    go_enter Try.func47, Try.ntmps47
    have hnews := snaps_news HS.out
    have hl1 := rowVals_length l
    have h1c := rowVals_one l
    have hmx : 0 + l.length ≤ maxLen := by unfold maxLen; omega
    have HN := Lib.hid hnews
    have HL := Lib.hid hl1
    have H1 := Lib.hid h1c
    have HM := Lib.hid hmx
    clear hnews hl1 h1c hmx
    go_wp2_with (at_builtin; refine wpList_append_own _ rfl _ _ 27 rfl w.heap.size 56 i0 _ 3 32 Try.underlying27 hi hy0 hy1 hy2 rfl (by omega) _ 0 [] rfl (World.ownsRow_made (base := w.heap.size) (e := 56) (size := 3) w #[] 0 (Nat.le_refl _) (by unfold maxLen; omega) rfl) ad l.length cap (rowVals l) rfl HL.out ?c1 H1.out HM.out (by omega) (by simp) ?_)
    case c1 =>
      intro j u hj
      have h0 := HN.out j u hj
      exact (World.cell?_of_block (w := w) (a := ad.add j) (Below.heap_alloc w _ _ (World.block_lt_of_cell? _ _ h0))).trans h0
    intro v' w1 hown hgrow _
    have hb : Below w.heap.size w w1 := ((Below.refl _ w).alloc (Nat.le_refl _) _).grown hgrow (by simp) (fun k hk => by cases hk; exact Nat.le_refl _)
    clear hgrow
    obtain ⟨va, vc, rfl⟩ := owns_slice hown
    have HO := Lib.hid hown
    clear hown
    go_wp2
    go_ret
    exact ⟨_, rfl, HO.out, hb⟩
end Go.Proofs.Ytmkcphelmgkipaa
