import Derived.Test.YtmkcphelmgkipaaT13
set_option linter.unusedVariables false
set_option linter.unusedSimpArgs false
namespace Go.Proofs.Ytmkcphelmgkipaa
open Go.RowKit

theorem check_any (m : Man) (sv : Value) (w : World) (hf : Fits m) (hS : SnapsAt w sv m.snaps) :
    Calls Try.prog 33 #[m.val sv] w fun e w' => e = .returned (.int .i64 (chk m)) ∧ Below w.heap.size w w' := by
  cases hv : vol m.vol.data.toList with
  | false => exact check_one m sv w hf (by rw [hv]; rfl)
  | true =>
    cases hm : mayB m.bvol m.bseq m.vol with
    | false => exact check_one m sv w hf (by rw [hv, hm]; rfl)
    | true => exact check_rest m sv w hf hS hv hm

theorem bl_total : ∀ a b : List UInt8, (!Op.bytesLess a b) = (Op.bytesLess b a || b == a)
  | [], [] => rfl
  | [], _ :: _ => by simp [Op.bytesLess]
  | _ :: _, [] => by simp [Op.bytesLess]
  | x :: a, y :: b => by
    have ih := bl_total a b
    simp only [Op.bytesLess]
    rcases Nat.lt_trichotomy x.toNat y.toNat with h | h | h
    · have h1 : x < y := UInt8.lt_iff_toNat_lt.2 h
      have h2 : ¬ y < x := fun h' => by have := UInt8.lt_iff_toNat_lt.1 h'; omega
      have h3 : (y == x) = false := by rw [beq_eq_false_iff_ne]; intro e; rw [e] at h; omega
      simp [h1, h2, h3, List.cons_beq_cons]
    · have e : x = y := UInt8.toNat_inj.1 h
      subst e
      have h2 : ¬ x < x := fun h' => by have := UInt8.lt_iff_toNat_lt.1 h'; omega
      simp only [h2, decide_false, BEq.rfl, Bool.true_and, Bool.false_or, List.cons_beq_cons]
      exact ih
    · have h1 : y < x := UInt8.lt_iff_toNat_lt.2 h
      have h2 : ¬ x < y := fun h' => by have := UInt8.lt_iff_toNat_lt.1 h'; omega
      have h3 : (x == y) = false := by rw [beq_eq_false_iff_ne]; intro e; rw [e] at h; omega
      simp [h1, h2, h3, List.cons_beq_cons]

theorem bl_empty (a : List UInt8) : Op.bytesLess a [] = false := by cases a <;> rfl

/-- The snapshot ahead of the k-th one. -/
def ahead (l : List Snp) (k : Nat) : Snp := if k = 0 then Snp.zero else l.getD (k - 1) Snp.zero
theorem prs_succ (l : List Snp) (k : Nat) : prs l (k + 1) = prs l k ++ [(ahead l k, l.getD k Snp.zero)] := rfl

theorem nameBad_empty {p : Snp × Snp} (h : p.2.name.toList.isEmpty = true) : nameBad p = true := by
  have e : p.2.name.toList = [] := List.isEmpty_iff.1 h
  unfold nameBad
  rw [e, ← bl_total]
  cases p.1.name.toList <;> simp [Op.bytesLess]
theorem nameBad_long {p : Snp × Snp} (h : 64 < p.2.name.size) : nameBad p = true := by unfold nameBad; rw [decide_eq_true h]; simp
theorem nameBad_less {p : Snp × Snp} (h : Op.bytesLess p.1.name.toList p.2.name.toList = false) : nameBad p = true := by unfold nameBad; rw [← bl_total, h]; rfl
theorem nameBad_not {p : Snp × Snp} (h : Op.bytesLess p.1.name.toList p.2.name.toList = true) (h2 : ¬ 64 < p.2.name.size) : nameBad p = false := by unfold nameBad; rw [← bl_total, h, decide_eq_false h2]; rfl
theorem nameBad_first {p : Snp × Snp} (h : p.2.name.toList.isEmpty = false) (h1 : p.1 = Snp.zero) (h2 : ¬ 64 < p.2.name.size) : nameBad p = false := by
  refine nameBad_not ?_ h2
  rw [h1]
  have : Snp.zero.name.toList = [] := by rw [ByteArray.toList_eq]; rfl
  rw [this]
  cases hc : p.2.name.toList with
  | nil => rw [hc] at h; simp at h
  | cons => rfl

theorem chk_names {m : Man} (h1 : (vol m.vol.data.toList && mayB m.bvol m.bseq m.vol) = true) (k : Nat) (hk : k < m.snaps.length) (h : nameBad (ahead m.snaps k, m.snaps.getD k Snp.zero) = true) : chk m = 1 := by
  unfold chk
  rw [if_neg (by rw [h1]; simp), if_pos (List.any_eq_true.2 ⟨_, prs_mem _ (k + 1) _ (by omega) _ (by rw [prs_succ]; exact List.mem_append_right _ (List.mem_singleton.2 rfl)), h⟩)]
theorem chk_range {m : Man} (h1 : (vol m.vol.data.toList && mayB m.bvol m.bseq m.vol) = true) (h2 : ∀ p ∈ prs m.snaps m.snaps.length, nameBad p = false) (h3 : right0 m = false) : chk m = 31 := by
  unfold chk
  rw [if_neg (by rw [h1]; simp), if_neg (by rw [List.any_eq_true]; rintro ⟨p, hp, hb⟩; rw [h2 p hp] at hb; cases hb), if_pos (by rw [h3]; rfl)]
theorem chk_nums {m : Man} (h1 : (vol m.vol.data.toList && mayB m.bvol m.bseq m.vol) = true) (h2 : ∀ p ∈ prs m.snaps m.snaps.length, nameBad p = false) (k : Nat) (hk : k < m.snaps.length) (h : numsOk (ahead m.snaps k, m.snaps.getD k Snp.zero) = false) : chk m = 31 := by
  unfold chk
  rw [if_neg (by rw [h1]; simp), if_neg (by rw [List.any_eq_true]; rintro ⟨p, hp, hb⟩; rw [h2 p hp] at hb; cases hb), if_pos]
  rw [Bool.and_eq_false_iff]
  right
  rw [List.all_eq_false]
  exact ⟨_, prs_mem _ (k + 1) _ (by omega) _ (by rw [prs_succ]; exact List.mem_append_right _ (List.mem_singleton.2 rfl)), by rw [h]; simp⟩
theorem chk_full {m : Man} (h1 : (vol m.vol.data.toList && mayB m.bvol m.bseq m.vol) = true) (h2 : ∀ p ∈ prs m.snaps m.snaps.length, nameBad p = false) (h3 : right0 m = true) (h4 : ∀ p ∈ prs m.snaps m.snaps.length, numsOk p = true) :
    chk m = if 100 < m.snaps.length then 32 else 0 := by
  unfold chk
  rw [if_neg (by rw [h1]; simp), if_neg (by rw [List.any_eq_true]; rintro ⟨p, hp, hb⟩; rw [h2 p hp] at hb; cases hb), if_neg (by rw [h3, Bool.true_and, Bool.not_eq_false, List.all_eq_true]; exact h4)]
end Go.Proofs.Ytmkcphelmgkipaa
