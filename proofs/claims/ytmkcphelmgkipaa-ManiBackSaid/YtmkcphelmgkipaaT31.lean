import Derived.Test.YtmkcphelmgkipaaT30
set_option linter.unusedVariables false
set_option linter.unusedSimpArgs false
namespace Go.Proofs.Ytmkcphelmgkipaa
open Go.RowKit
attribute [local go_sem ↓] Go.wp_at_zero Go.wp_at_succ

set_option maxHeartbeats 1000000 in
set_option maxRecDepth 100000 in
theorem rdecode_bad (s : ByteArray) (w : World) (hs : s.size ≤ 140737488351232) {A : List UInt8} {c : Int} (h : opened s.data.toList = (A, c)) (hc : c ≠ 0) :
    Calls Try.prog 9 #[.string s] w (ManPost (Man.zero, c) w) := by
  have hd : (c != 0) = true := by rw [bne_iff_ne]; exact hc
  have HO : Hid (∀ w, Calls Try.prog 34 #[.string s] w fun e w' => e = .returned (.tuple #[.string (str A), .int .i64 c]) ∧ Below w.heap.size w w') := fun w => ropen_is s hs h w
  clear h hc
  go_enter Try.func9, Try.ntmps9
  go_wp2_with fail
  refine (HO.out _).mono ?_
  rintro e w1 ⟨rfl, hb⟩
  have hx : w1.heap[w.heap.size]? = some (.cells #[.string ⟨#[]⟩, .int .u64 0, .int .i64 0, .int .i64 0, .string ⟨#[]⟩, .int .i64 0, .slice none 0 0] 35 (0, 0)) := by
    rw [hb.block _ (by simp)]; exact heap_alloc_new w _
  have HB := Lib.hid (alloc_trans hb)
  clear hb
  have k0 := cell_of_heap hx 0
  have k1 := cell_of_heap hx 1
  have k2 := cell_of_heap hx 2
  have k3 := cell_of_heap hx 3
  have k4 := cell_of_heap hx 4
  have k5 := cell_of_heap hx 5
  have k6 := cell_of_heap hx 6
  have f := frozen_of_heap hx
  simp only [List.getElem?_toArray, List.getElem?_cons_zero, List.getElem?_cons_succ] at k0 k1 k2 k3 k4 k5 k6
  have HX := Lib.hid hx
  clear hx
  go_wp2
  obtain ⟨g1, g2⟩ := seven HX.out (.string ⟨#[]⟩) (.int .u64 0) (.int .i64 0) (.int .i64 0) (.string ⟨#[]⟩) (.int .i64 0) (.slice none 0 0)
  exact leaveB (res9 g1 rfl rfl) (manPost_zero c (HB.out.trans (g2.below (fun k e => by omega) HB.out.size)))

theorem magic_is (A : List UInt8) (h : 4 ≤ A.length) : (((str A).extract 0 4).toList == [77, 65, 78, 50]) = Lib.hasPrefix A [77, 65, 78, 50] := by
  have : ((str A).extract 0 4).toList = A.take 4 := by rw [ext_str, ByteArray.toList_eq, str_data, str_data]; simp
  rw [this, Lib.hasPrefix]
  match A, h with
  | a :: b :: c :: d :: t, _ => simp only [List.take_succ_cons, List.take_zero, List.isPrefixOf, BEq.comm (a := (77 : UInt8)), BEq.comm (a := (65 : UInt8)), BEq.comm (a := (78 : UInt8)), BEq.comm (a := (50 : UInt8))]; rfl

set_option maxHeartbeats 1000000 in
set_option maxRecDepth 100000 in
theorem rdecode_kind (s : ByteArray) (w : World) (hs : s.size ≤ 140737488351232) {A : List UInt8} (h : opened s.data.toList = (A, 0)) (hp : Lib.hasPrefix A [77, 65, 78, 50] = false) :
    Calls Try.prog 9 #[.string s] w (ManPost (Man.zero, 14) w) := by
  have HO : Hid (∀ w, Calls Try.prog 34 #[.string s] w fun e w' => e = .returned (.tuple #[.string (str A), .int .i64 0]) ∧ Below w.heap.size w w') := fun w => ropen_is s hs h w
  have hz : (str A).size = A.length := str_size A
  have hAl : A.length ≤ s.size := by have := opened_le s.data.toList; rw [h] at this; simpa using this
  by_cases h4 : A.length < 4
  · have hd : decide (((str A).size : Int) < 4) = true := by rw [hz]; simp; omega
    have hd2 : ((str A).size : Int) < 4 := by omega
    clear h hp h4 hz
    go_enter Try.func9, Try.ntmps9
    go_wp2_with fail
    refine (HO.out _).mono ?_
    rintro e w1 ⟨rfl, hb⟩
    have hx : w1.heap[w.heap.size]? = some (.cells #[.string ⟨#[]⟩, .int .u64 0, .int .i64 0, .int .i64 0, .string ⟨#[]⟩, .int .i64 0, .slice none 0 0] 35 (0, 0)) := by
      rw [hb.block _ (by simp)]; exact heap_alloc_new w _
    have HB := Lib.hid (alloc_trans hb)
    clear hb
    have k0 := cell_of_heap hx 0
    have k1 := cell_of_heap hx 1
    have k2 := cell_of_heap hx 2
    have k3 := cell_of_heap hx 3
    have k4 := cell_of_heap hx 4
    have k5 := cell_of_heap hx 5
    have k6 := cell_of_heap hx 6
    have f := frozen_of_heap hx
    simp only [List.getElem?_toArray, List.getElem?_cons_zero, List.getElem?_cons_succ] at k0 k1 k2 k3 k4 k5 k6
    have HX := Lib.hid hx
    clear hx
    go_wp2
    obtain ⟨g1, g2⟩ := seven HX.out (.string ⟨#[]⟩) (.int .u64 0) (.int .i64 0) (.int .i64 0) (.string ⟨#[]⟩) (.int .i64 0) (.slice none 0 0)
    exact leaveB (res9 g1 rfl rfl) (manPost_zero 14 (HB.out.trans (g2.below (fun k e => by omega) HB.out.size)))
  · have hd : decide (((str A).size : Int) < 4) = false := by rw [hz]; simp; omega
    have hd2 : (4 : Int) ≤ ((str A).size : Int) := by omega
    have hm : (((str A).extract 0 4).toList == [77, 65, 78, 50]) = false := by rw [magic_is A (by omega)]; exact hp
    clear h hp h4 hz
    go_enter Try.func9, Try.ntmps9
    go_wp2_with fail
    refine (HO.out _).mono ?_
    rintro e w1 ⟨rfl, hb⟩
    have hx : w1.heap[w.heap.size]? = some (.cells #[.string ⟨#[]⟩, .int .u64 0, .int .i64 0, .int .i64 0, .string ⟨#[]⟩, .int .i64 0, .slice none 0 0] 35 (0, 0)) := by
      rw [hb.block _ (by simp)]; exact heap_alloc_new w _
    have HB := Lib.hid (alloc_trans hb)
    clear hb
    have k0 := cell_of_heap hx 0
    have k1 := cell_of_heap hx 1
    have k2 := cell_of_heap hx 2
    have k3 := cell_of_heap hx 3
    have k4 := cell_of_heap hx 4
    have k5 := cell_of_heap hx 5
    have k6 := cell_of_heap hx 6
    have f := frozen_of_heap hx
    simp only [List.getElem?_toArray, List.getElem?_cons_zero, List.getElem?_cons_succ] at k0 k1 k2 k3 k4 k5 k6
    have HX := Lib.hid hx
    clear hx
    go_wp2
    obtain ⟨g1, g2⟩ := seven HX.out (.string ⟨#[]⟩) (.int .u64 0) (.int .i64 0) (.int .i64 0) (.string ⟨#[]⟩) (.int .i64 0) (.slice none 0 0)
    exact leaveB (res9 g1 rfl rfl) (manPost_zero 14 (HB.out.trans (g2.below (fun k e => by omega) HB.out.size)))
end Go.Proofs.Ytmkcphelmgkipaa
