import Derived.Test.YtmkcphelmgkipaaPure3
import Derived.Test.YtmkcphelmgkipaaRangeX
import Derived.Test.YtmkcphelmgkipaaT8
set_option linter.unusedVariables false
set_option linter.unusedSimpArgs false
namespace Go.Proofs.Ytmkcphelmgkipaa
open Go.RowKit
attribute [local go_sem ↓] Go.wp_at_zero Go.wp_at_succ

/-- A reader of s, in the block o: where it stands, and its error. -/
def InAt (w : World) (o : Nat) (a e : Int) (s : ByteArray) : Prop := w.heap[o]? = some (.cells #[.int .i64 a, .int .i64 e, .string s] 103 (0, 0))

theorem InAt.c0 {w : World} {o : Nat} {a e : Int} {s : ByteArray} (h : InAt w o a e s) : w.cell? ⟨o, 0, none⟩ = some (.int .i64 a) := by simp [World.cell?, show w.heap[o]? = _ from h]
theorem InAt.c1 {w : World} {o : Nat} {a e : Int} {s : ByteArray} (h : InAt w o a e s) : w.cell? ⟨o, 1, none⟩ = some (.int .i64 e) := by simp [World.cell?, show w.heap[o]? = _ from h]
theorem InAt.c2 {w : World} {o : Nat} {a e : Int} {s : ByteArray} (h : InAt w o a e s) : w.cell? ⟨o, 2, none⟩ = some (.string s) := by simp [World.cell?, show w.heap[o]? = _ from h]
theorem InAt.f0 {w : World} {o : Nat} {a e : Int} {s : ByteArray} (h : InAt w o a e s) (i : Nat) : w.frozen? ⟨o, i, none⟩ = false := by simp [World.frozen?, show w.heap[o]? = _ from h]

set_option maxHeartbeats 1000000 in
set_option maxRecDepth 100000 in
theorem ready_any (o : Nat) (a e : Int) (s : ByteArray) (w : World) (h : InAt w o a e s) :
    Calls Try.prog 59 #[.pointer (some ⟨o, 0, none⟩)] w fun e' w' => e' = .returned (.bool (e == 0)) ∧ w = w' := by
  have h1 := h.c1
  go_enter Try.func59, Try.ntmps59
  go_wp2
  go_ret
  exact ⟨rfl, rfl⟩

set_option maxHeartbeats 1000000 in
set_option maxRecDepth 100000 in
theorem at_any (o : Nat) (a e : Int) (s : ByteArray) (w : World) (h : InAt w o a e s) :
    Calls Try.prog 56 #[.pointer (some ⟨o, 0, none⟩)] w fun e' w' => e' = .returned (.int .i64 a) ∧ w = w' := by
  have h1 := h.c0
  go_enter Try.func56, Try.ntmps56
  go_wp2
  go_ret
  exact ⟨rfl, rfl⟩

set_option maxHeartbeats 1000000 in
set_option maxRecDepth 100000 in
theorem err_any (o : Nat) (a e : Int) (s : ByteArray) (w : World) (h : InAt w o a e s) :
    Calls Try.prog 62 #[.pointer (some ⟨o, 0, none⟩)] w fun e' w' => e' = .returned (.int .i64 e) ∧ w = w' := by
  have h1 := h.c1
  go_enter Try.func62, Try.ntmps62
  go_wp2
  go_ret
  exact ⟨rfl, rfl⟩

set_option maxHeartbeats 1000000 in
set_option maxRecDepth 100000 in
theorem stand_any (o : Nat) (a e a' e' : Int) (s : ByteArray) (w : World) (h : InAt w o a e s) :
    Calls Try.prog 58 #[.pointer (some ⟨o, 0, none⟩), .int .i64 a', .int .i64 e'] w fun r w' => r = .returned (.tuple #[]) ∧ InAt w' o a' e' s ∧ KeepsBut (fun k => k = o) w w' := by
  have h0 := h.c0
  have h1 := h.c1
  have f0 := h.f0 0
  have f1 := h.f0 1
  have H := Lib.hid h
  clear h
  go_enter Try.func58, Try.ntmps58
  go_wp2
  go_end0
  refine ⟨rfl, ?_, (KeepsBut.setCell (X := fun k => k = o) w (p := ⟨o, 0, none⟩) rfl _).trans (KeepsBut.setCell (X := fun k => k = o) _ (p := ⟨o, 1, none⟩) rfl _)⟩
  have e1 := heap_setCell_same w o 0 _ 103 (.int .i64 a') H.out
  have e2 := heap_setCell_same _ o 1 _ 103 (.int .i64 e') e1
  exact e2

set_option maxHeartbeats 1000000 in
set_option maxRecDepth 100000 in
theorem left_any (o a : Nat) (e : Int) (s : ByteArray) (w : World) (h : InAt w o a e s) (ha : a ≤ s.size) (hs : s.size ≤ 140737488351232) :
    Calls Try.prog 63 #[.pointer (some ⟨o, 0, none⟩)] w fun e' w' => e' = .returned (.int .i64 ((s.size : Int) - a)) ∧ ∃ n, w' = w.drewN n := by
  have h0 := h.c0
  have h2 := h.c2
  go_enter Try.func63, Try.ntmps63
  go_wp2
  go_quiet (fail)
  go_wp2
  go_ret
  exact ⟨rfl, _, rfl⟩
end Go.Proofs.Ytmkcphelmgkipaa
