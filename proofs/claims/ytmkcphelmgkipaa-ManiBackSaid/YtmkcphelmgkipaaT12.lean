import Derived.Test.YtmkcphelmgkipaaT11
set_option linter.unusedVariables false
set_option linter.unusedSimpArgs false
namespace Go.Proofs.Ytmkcphelmgkipaa
open Go.RowKit Go.Shelf
attribute [local go_sem] Oper.semAt_some

theorem wide_fn (f : Nat) : Fence.wide.fn f = True := rfl
theorem wide_depth : Fence.wide.depth = none := rfl
attribute [local go_sem] wide_fn wide_depth

/-- A manifest. -/
structure Man where
  vol : ByteArray
  key : Int
  serial : Int
  size : Int
  bvol : ByteArray
  bseq : Int
  snaps : List Snp

def Man.val (m : Man) (sv : Value) : Value := .agg #[.string m.vol, .int .u64 m.key, .int .i64 m.serial, .int .i64 m.size, .string m.bvol, .int .i64 m.bseq, sv]

/-- Is a snapshot's name wrong, behind the one ahead? -/
def nameBad (p : Snp × Snp) : Bool := (Op.bytesLess p.2.name.toList p.1.name.toList || p.2.name.toList == p.1.name.toList) || decide (64 < p.2.name.size)
def numsOk (p : Snp × Snp) : Bool := nump p.2.seq && nump p.2.upto
def right0 (m : Man) : Bool := nump m.serial && decide (1 ≤ m.size) && decide (m.size ≤ 65536)

/-- What is wrong with a manifest. -/
def chk (m : Man) : Int :=
  if (vol m.vol.data.toList && mayB m.bvol m.bseq m.vol) = false then 1
  else if (prs m.snaps m.snaps.length).any nameBad = true then 1
  else if (right0 m && (prs m.snaps m.snaps.length).all numsOk) = false then 31
  else if 100 < m.snaps.length then 32 else 0

/-- Sizes that any value that is read has. -/
structure Fits (m : Man) : Prop where
  vol : m.vol.size ≤ 140737488351232
  bvol : m.bvol.size ≤ 140737488351232
  len : m.snaps.length ≤ 140737488351232
  names : ∀ x ∈ m.snaps, x.name.size ≤ 140737488351232


/-- Two blocks that were just laid, behind a call that keeps what was there. -/
theorem kept_two {w w1 : World} {c d : Array Value} {e f : TypeId} (hb : Below ((w.alloc (.cells c e)).alloc (.cells d f)).heap.size ((w.alloc (.cells c e)).alloc (.cells d f)) w1) :
    w1.heap[w.heap.size]? = some (.cells c e (0, 0)) ∧ w1.heap[w.heap.size + 1]? = some (.cells d f (0, 0)) ∧ Below w.heap.size w w1 ∧ w.heap.size + 1 < w1.heap.size := by
  refine ⟨?_, ?_, ?_, ?_⟩
  · rw [hb.block _ (by simp; omega), Below.heap_alloc _ _ _ (by simp)]; exact heap_alloc_new w _
  · rw [hb.block _ (by simp)]
    have := heap_alloc_new (w.alloc (.cells c e)) (.cells d f)
    rwa [World.size_alloc] at this
  · exact (((Below.refl _ w).alloc (Nat.le_refl _) _).alloc (by simp) _).trans (hb.mono (by simp; omega))
  · have := hb.size; simp at this; omega

theorem cell_of_heap {w : World} {b : Nat} {c : Array Value} {e : TypeId} {fr : Nat × Nat} (h : w.heap[b]? = some (.cells c e fr)) (i : Nat) : w.cell? ⟨b, i, none⟩ = c[i]? := by simp [World.cell?, h]
theorem frozen_of_heap {w : World} {b : Nat} {c : Array Value} {e : TypeId} (h : w.heap[b]? = some (.cells c e (0, 0))) (i : Nat) : w.frozen? ⟨b, i, none⟩ = false := by simp [World.frozen?, h]

theorem chk_one (m : Man) (h : (vol m.vol.data.toList && mayB m.bvol m.bseq m.vol) = false) : chk m = 1 := if_pos h

theorem res33 {A : World} {b : Nat} {n : Int} (hA : A.cell? ⟨b, 0, none⟩ = some (.int .i64 n)) (tmps : Array Value) (ht : tmps[2]? = some (.pointer (some ⟨b, 0, none⟩))) :
    (results Try.f33 tmps).run Try.prog A = .ok (.int .i64 n) A := by
  simp [results, Try.results33, go_sem, ht, hA]

theorem leave0 {n : Nat} {P : Program} {fn : Func} {tmps : Array Value} {R : Ending → World → Prop} {w : World} {v : Value} (hr : (results fn tmps).run P w = .ok v w) (h : R (.returned v) w) :
    bodyPostM Fence.wide n P fn R .ret { tmps := tmps, defers := [] } w := ⟨v, hr, h⟩

theorem leaveD {n D : Nat} {P : Program} {fn : Func} {tmps : Array Value} {R : Ending → World → Prop} {w : World} {v : Value} (hD : w.heap[D]? = some (.deferred (some [])))
    (hr : (results fn tmps).run P (w.putObj D (.deferred none)) = .ok v (w.putObj D (.deferred none))) (h : R (.returned v) (w.putObj D (.deferred none))) :
    bodyPostM Fence.wide n P fn R .ret { tmps := tmps, defers := [{ target := .collected D, args := #[] }] } w :=
  ⟨by simp, .inl ⟨_, _, rfl, run_takeDeferred hD, v, hr, h⟩⟩

set_option maxHeartbeats 2000000 in
set_option maxRecDepth 100000 in
theorem check_one (m : Man) (sv : Value) (w : World) (hf : Fits m) (hbad : (vol m.vol.data.toList && mayB m.bvol m.bseq m.vol) = false) :
    Calls Try.prog 33 #[m.val sv] w fun e w' => e = .returned (.int .i64 (chk m)) ∧ Below w.heap.size w w' := by
  have HC := Lib.hid (chk_one m hbad)
  obtain ⟨v, key, serial, size, bv, bs, l⟩ := m
  obtain ⟨hv, hbv, hlen, hnames⟩ := hf
  simp only [Man.val] at *
  have HV := Lib.hid (volume_any v ((w.alloc (.cells #[.string v, .int .u64 key, .int .i64 serial, .int .i64 size, .string bv, .int .i64 bs, sv] 29)).alloc (.cells #[.int .i64 0] 30)) hv)
  refine (callsIn_wide (n := 4)).1 ?_
  refine callsIn_of_wp_marks Try.func33 rfl trivial ?_ wide_round
  simp only [Try.ntmps33, List.size_toArray, List.length_cons, List.length_nil, Nat.reduceAdd, Nat.reduceSub, Array.replicate_succ, Array.replicate_zero, List.push_toArray, List.append_toArray, List.nil_append, List.cons_append]
  cases hvol : vol v.data.toList with
  | false =>
    clear hbad
    gi_wp2_with fail
    refine (callsIn_wide.2 HV.out).mono ?_
    rintro e w1 ⟨rfl, hb⟩
    rw [volE_no hvol]
    obtain ⟨h1, h2, h3, h4⟩ := kept_two hb
    have c2 := cell_of_heap h2 0
    have f2 := frozen_of_heap h2 0
    clear hvol hb
    simp only [List.getElem?_toArray, List.getElem?_cons_zero] at c2
    have H1 := Lib.hid h1
    have H2 := Lib.hid h2
    clear h1 h2
    gi_wp2
    refine leave0 (res33 (World.cell?_setCell_same' _ _ _ (by rw [c2]; rfl)) _ rfl) ⟨by rw [HC.out], h3.setCell (p := ⟨w.heap.size + 1, 0, none⟩) (by simp) _⟩
  | true =>
    rw [hvol, Bool.true_and] at hbad
    gi_wp2_with fail
    refine (callsIn_wide.2 HV.out).mono ?_
    rintro e w1 ⟨rfl, hb⟩
    rw [volE_yes hvol]
    obtain ⟨h1, h2, h3, h4⟩ := kept_two hb
    have c0 := cell_of_heap h1 0
    have c4 := cell_of_heap h1 4
    have c5 := cell_of_heap h1 5
    clear hvol hb
    simp only [List.getElem?_toArray, List.getElem?_cons_zero, List.getElem?_cons_succ] at c0 c4 c5
    have HB := Lib.hid hbad
    have H2 := Lib.hid h2
    clear hbad h1 h2
    gi_wp2_with fail
    refine (callsIn_wide.2 (may_any bv v bs w1 hbv)).mono ?_
    rintro e w2 ⟨rfl, hb2⟩
    rw [HB.out]
    have c2 := (hb2.cell (p := ⟨w.heap.size + 1, 0, none⟩) h4).trans (cell_of_heap H2.out 0)
    have f2 := (hb2.frozen (p := ⟨w.heap.size + 1, 0, none⟩) h4).trans (frozen_of_heap H2.out 0)
    simp only [List.getElem?_toArray, List.getElem?_cons_zero] at c2
    have h5 : Below w.heap.size w w2 := h3.trans (hb2.mono (by omega))
    clear hb2
    gi_wp2
    refine leave0 (res33 (World.cell?_setCell_same' _ _ _ (by rw [c2]; rfl)) _ rfl) ⟨by rw [HC.out], h5.setCell (p := ⟨w.heap.size + 1, 0, none⟩) (by simp) _⟩
end Go.Proofs.Ytmkcphelmgkipaa
