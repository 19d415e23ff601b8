import Derived.Test.YtmkcphelmgkipaaSort
import Derived.Test.YtmkcphelmgkipaaT34
import Derived.Test.YtmkcphelmgkipaaT47
import Derived.Outline
set_option linter.unusedVariables false
set_option linter.unusedSimpArgs false
namespace Go.Proofs.Ytmkcphelmgkipaa
open Go.RowKit Go.Shelf Go.Sort

/-! Snapshots sorted by their names. -/

def cmpS (a b : List UInt8) : Int := if Op.bytesLess a b = true then -1 else if Op.bytesLess b a = true then 1 else 0
def cfS (x y : Snp) : Int := cmpS x.name.toList y.name.toList

theorem bl_irr (a : List UInt8) : Op.bytesLess a a = false := by
  have := bl_total a a
  simp at this
  exact this

theorem bl_trans : ∀ a b c : List UInt8, Op.bytesLess a b = true → Op.bytesLess b c = true → Op.bytesLess a c = true
  | _, [], _, h, _ => by rw [bl_empty] at h; cases h
  | _, _ :: _, [], _, h => by rw [bl_empty] at h; cases h
  | [], _ :: _, _ :: _, _, _ => rfl
  | x :: a, y :: b, z :: c, h1, h2 => by
    have ih := bl_trans a b c
    simp only [Op.bytesLess, Bool.or_eq_true, Bool.and_eq_true, decide_eq_true_eq, beq_iff_eq] at *
    rcases h1 with h1 | ⟨rfl, h1⟩
    · rcases h2 with h2 | ⟨rfl, h2⟩
      · left; exact UInt8.lt_trans h1 h2
      · left; exact h1
    · rcases h2 with h2 | ⟨rfl, h2⟩
      · left; exact h2
      · right; exact ⟨rfl, ih h1 h2⟩

theorem bl_asymm {a b : List UInt8} (h : Op.bytesLess a b = true) : Op.bytesLess b a = false := by
  cases h2 : Op.bytesLess b a with
  | false => rfl
  | true => have := bl_trans a b a h h2; rw [bl_irr] at this; cases this

theorem bl_eq {a b : List UInt8} (h : Op.bytesLess a b = false) (h2 : Op.bytesLess b a = false) : a = b := by
  have := bl_total a b
  rw [h, h2] at this
  simp at this
  exact this.symm

set_option maxHeartbeats 1000000 in
set_option maxRecDepth 100000 in
theorem isnan_any (s : ByteArray) (w : World) : Calls Try.prog 80 #[.string s] w fun e w' => e = .returned (.bool false) ∧ w = w' := by
  have h : (!(s.toList == s.toList)) = false := by simp
  go_enter Try.func80, Try.ntmps80
  go_wp2
  go_ret
  exact ⟨rfl, rfl⟩

set_option maxHeartbeats 1000000 in
set_option maxRecDepth 100000 in
theorem compare_any (s t : ByteArray) (w : World) : Calls Try.prog 51 #[.string s, .string t] w fun e w' => e = .returned (.int .i64 (cmpS s.toList t.toList)) ∧ w = w' := by
  have H1 := Lib.hid (isnan_any s)
  have H2 := Lib.hid (isnan_any t)
  unfold cmpS
  cases h1 : Op.bytesLess s.toList t.toList with
  | true =>
    go_enter Try.func51, Try.ntmps51
    go_wp2_with (first | (go_at_call 80; refine (H1.out _).mono ?_; rintro e w' ⟨rfl, rfl⟩) | (go_at_call 80; refine (H2.out _).mono ?_; rintro e w' ⟨rfl, rfl⟩))
    go_ret
    exact ⟨rfl, rfl⟩
  | false =>
    cases h2 : Op.bytesLess t.toList s.toList with
    | true =>
      have he : (s.toList == t.toList) = false := by
        rw [beq_eq_false_iff_ne]; intro e; rw [e, bl_irr] at h2; cases h2
      go_enter Try.func51, Try.ntmps51
      go_wp2_with (first | (go_at_call 80; refine (H1.out _).mono ?_; rintro e w' ⟨rfl, rfl⟩) | (go_at_call 80; refine (H2.out _).mono ?_; rintro e w' ⟨rfl, rfl⟩))
      go_ret
      exact ⟨rfl, rfl⟩
    | false =>
      have he : (s.toList == t.toList) = true := by rw [bl_eq h1 h2]; simp
      go_enter Try.func51, Try.ntmps51
      go_wp2_with (first | (go_at_call 80; refine (H1.out _).mono ?_; rintro e w' ⟨rfl, rfl⟩) | (go_at_call 80; refine (H2.out _).mono ?_; rintro e w' ⟨rfl, rfl⟩))
      go_ret
      exact ⟨rfl, rfl⟩

set_option maxHeartbeats 1000000 in
set_option maxRecDepth 100000 in
theorem closure50 (x y : Snp) (W : World) : Calls Try.prog 50 #[.agg #[.string x.name, .int .i64 x.seq, .int .i64 x.upto], .agg #[.string y.name, .int .i64 y.seq, .int .i64 y.upto]] W
    fun e w' => e = .returned (.int .i64 (cfS x y)) ∧ ∃ q os', w' = grow (W.drewN q) os' := by
  have hcon := fun W' => compare_any x.name y.name W'
  change ∀ W', Calls Try.prog 51 _ _ (fun e w' => e = .returned (.int .i64 (cfS x y)) ∧ W' = w') at hcon
  generalize cfS x y = r at hcon ⊢
  go_enter Try.func50, Try.ntmps50
  go_wp2_with (go_at_call 51; refine (hcon _).mono ?_; rintro e w' ⟨rfl, rfl⟩)
  go_ret
  exact ⟨rfl, 0, _, by rw [alloc_eq_grow, alloc_eq_grow, grow_grow]; rfl⟩

theorem cmpLays50 (blk off size : Nat) (w : World) : CmpLays Try.prog 50 #[] snapVals 3 cfS blk off size w :=
  fun _ _ _ _ x y => closure50 x y _

theorem lt_cfS (x y : Snp) : ltOf cfS x y = Op.bytesLess x.name.toList y.name.toList := by
  unfold ltOf cfS cmpS
  cases h : Op.bytesLess x.name.toList y.name.toList with
  | true => simp
  | false =>
    cases h2 : Op.bytesLess y.name.toList x.name.toList <;> simp

theorem swoS : SWO (ltOf cfS) := by
  refine ⟨fun x => ?_, fun x y z h1 h2 => ?_, fun x y z h1 h2 => ?_⟩
  · rw [lt_cfS]; exact bl_irr _
  · rw [lt_cfS] at *; exact bl_trans _ _ _ h1 h2
  · rw [lt_cfS] at *
    cases h : Op.bytesLess x.name.toList z.name.toList with
    | false => rfl
    | true =>
      cases h3 : Op.bytesLess y.name.toList x.name.toList with
      | true => have := bl_trans _ _ _ h3 h; rw [h2] at this; cases this
      | false => rw [bl_eq h1 h3] at h; rw [h2] at h; cases h

theorem keeps_sort (w : World) (g n : Nat) (d : Array Snp) (os : Array Obj) : KeepsBut (fun k => k = g) w (sortWorldK snapVals 3 w g 0 n d os) := by
  refine ⟨rfl, rfl, rfl, ?_, fun k hk hx => ?_⟩
  · simp [sortWorldK, putRowK]
  · show (grow _ os).heap[k]? = _
    rw [heap_grow_old _ _ (by simp [putRowK]; exact hk)]
    show (w.heap.modify g _)[k]? = _
    rw [Array.getElem?_modify, if_neg (fun e => hx e.symm)]

theorem holds_row {w : World} {base g cap : Nat} {l : List Snp} (hown : w.ownsRow base 56 3 (.slice (some ⟨g, 0, none⟩) l.length cap) l.length (rowVals l)) : HoldsK snapVals 3 w g 0 l.toArray := by
  intro j hj
  rw [size_flatK] at hj
  simp only [List.size_toArray] at hj
  refine ⟨?_, ?_⟩
  · rw [Nat.zero_add, hown.cellAt j hj, get_flatK _ _ _ _ (by simpa using hj)]
    have hi : j / 3 < l.length := by omega
    have e3 : j / 3 * 3 + j % 3 = j := by omega
    have hr := rowVals_at l (j / 3) (j % 3) hi (by omega)
    rw [e3] at hr
    rw [hr]
    have e1 : l.toArray[j / 3]! = l.getD (j / 3) Snp.zero := by
      rw [getElem!_pos l.toArray (j / 3) (by simpa using hi), List.getD_eq_getElem?_getD, List.getElem?_eq_getElem hi]
      simp
    rw [e1]
    have hlen : (snapVals (l.getD (j / 3) Snp.zero)).length = 3 := rfl
    show _ = some (id _)
    rw [List.getElem?_eq_getElem (by rw [hlen]; omega)]
    rw [getElem!_pos (snapVals (l.getD (j / 3) Snp.zero)) (j % 3) (by rw [hlen]; omega)]
    rfl
  · rw [Nat.zero_add]
    exact hown.frozenAt j

theorem snaps_holds {w : World} {g cap : Nat} {d : Array Snp} (h : HoldsK snapVals 3 w g 0 d) : SnapsAt w (.slice (some ⟨g, 0, none⟩) d.toList.length cap) d.toList := by
  refine ⟨_, cap, rfl, fun i hi => ⟨g, 0, rfl, ?_⟩⟩
  have hi' : i < d.size := by simpa using hi
  have e : d.toList.getD i Snp.zero = d[i]! := by
    rw [List.getD_eq_getElem?_getD, List.getElem?_eq_getElem hi, getElem!_pos d i hi']
    simp
  rw [e]
  exact ⟨(h.cell hi' (c := 0) (by omega)).1, (h.cell hi' (c := 1) (by omega)).1, (h.cell hi' (c := 2) (by omega)).1⟩

def Rising (l : List Snp) : Prop := ∀ i j, i < j → j < l.length → Op.bytesLess (l.getD j Snp.zero).name.toList (l.getD i Snp.zero).name.toList = false

def SortPost (l : List Snp) (g cap : Nat) (w : World) (e : Ending) (w' : World) : Prop :=
  e = .returned (.tuple #[]) ∧ KeepsBut (fun k => k = g) w w' ∧ ∃ l' : List Snp, l'.Perm l ∧ Rising l' ∧ SnapsAt w' (.slice (some ⟨g, 0, none⟩) l.length cap) l'

theorem sort_any (base : Nat) (l : List Snp) (g cap : Nat) (w : World) (hown : w.ownsRow base 56 3 (.slice (some ⟨g, 0, none⟩) l.length cap) l.length (rowVals l)) (hl : l.length ≤ 1000000) :
    Calls Try.prog 49 #[.slice (some ⟨g, 0, none⟩) l.length cap, .func (.func 50) #[] #[]] w (SortPost l g cap w) := by
  have eg : ∀ args w, (callFunc 50 args).run Try.prog w = .ok (.enter 50 args) w := enters_of Try.func50 (by kernel_rfl) rfl
  have hblk := (hown.lt g rfl).2
  have hcon := AnyQ.slices_SortFunc Try.sortSnaps 3 Try.isAgg56 Try.sizeOf56 snapVals (fun _ => rfl) (fun x v hv => by simp [snapVals] at hv; rcases hv with rfl | rfl | rfl <;> rfl) cfS swoS 50 #[] g 0 cap l.toArray w eg (cmpLays50 g 0 l.toArray.size w) (holds_row hown) hblk (by simp; omega)
  change Calls Try.prog 49 _ _ _ at hcon
  simp only [List.size_toArray] at hcon
  refine hcon.mono ?_
  rintro e w' ⟨rfl, d', n, os, hp, hs, rfl⟩
  obtain ⟨hsz, _, hperm⟩ := hp
  simp only [List.size_toArray] at hsz
  have hlen : d'.toList.length = l.length := by simpa using hsz
  have hh : HoldsK snapVals 3 (sortWorldK snapVals 3 w g 0 n d' os) g 0 d' := SWK.holds ⟨n, os, rfl⟩ hblk (holds_row hown) (by simpa using hsz)
  refine ⟨rfl, keeps_sort w g n d' os, d'.toList, ?_, ?_, ?_⟩
  · have e1 : d'.extract 0 l.length = d' := by rw [← hsz]; simp
    have e2 : l.toArray.extract 0 l.length = l.toArray := by simp
    rw [e1, e2] at hperm
    exact hperm
  · intro i j hij hj
    have h := hs i j (Nat.zero_le _) hij (by rw [← hlen]; exact hj)
    rw [lt_cfS] at h
    have hj' : j < d'.size := by simpa using hj
    have e : ∀ k, k < d'.size → d'.toList.getD k Snp.zero = d'[k]! := fun k hk => by
      rw [List.getD_eq_getElem?_getD, List.getElem?_eq_getElem (by simpa using hk), getElem!_pos d' k hk]
      simp
    rw [e j hj', e i (by omega)]
    exact h
  · have := snaps_holds (cap := cap) hh
    rwa [hlen] at this
end Go.Proofs.Ytmkcphelmgkipaa
