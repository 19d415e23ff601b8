import Derived.Test.YtmkcphelmgkipaaT15
set_option linter.unusedVariables false
set_option linter.unusedSimpArgs false
namespace Go.Proofs.Ytmkcphelmgkipaa
open Go.RowKit

/-- A snapshot's bytes. -/
def snapBytes (x : Snp) : List UInt8 := txt x.name.data.toList ++ (vr x.seq.toNat ++ vr x.upto.toNat)
def snapsBytes (l : List Snp) : List UInt8 := (l.map snapBytes).flatten
/-- What stands ahead of the snapshots. -/
def front (m : Man) : List UInt8 :=
  [77, 65, 78, 50] ++ txt m.vol.data.toList ++ be m.key.toNat 8 ++ (vr m.serial.toNat ++ vr m.size.toNat) ++ txt m.bvol.data.toList ++ (vr m.bseq.toNat ++ vr m.snaps.length)
/-- A manifest's bytes. -/
def enc (m : Man) : List UInt8 := sealed (front m ++ snapsBytes m.snaps)

/-- What a manifest that may be is. -/
structure Good (m : Man) : Prop where
  vol : vol m.vol.data.toList = true
  may : mayB m.bvol m.bseq m.vol = true
  serial : 0 ≤ m.serial ∧ m.serial < 1099511627776
  size : 1 ≤ m.size ∧ m.size ≤ 65536
  names : ∀ p ∈ prs m.snaps m.snaps.length, nameBad p = false
  nums : ∀ p ∈ prs m.snaps m.snaps.length, numsOk p = true
  many : m.snaps.length ≤ 100

theorem nump_iff (n : Int) : nump n = true ↔ 0 ≤ n ∧ n < 1099511627776 := by unfold nump; rw [decide_eq_true_iff]

theorem chk_good {m : Man} (h : chk m = 0) : Good m := by
  unfold chk at h
  split at h
  · cases h
  · rename_i h1
    split at h
    · cases h
    · rename_i h2
      split at h
      · cases h
      · rename_i h3
        split at h
        · cases h
        · rename_i h4
          simp only [Bool.not_eq_false, Bool.and_eq_true] at h1 h3
          obtain ⟨h3, h3'⟩ := h3
          unfold right0 at h3
          simp only [Bool.and_eq_true, decide_eq_true_eq, nump_iff] at h3
          refine ⟨h1.1, h1.2, h3.1.1, ⟨h3.1.2, h3.2⟩, ?_, ?_, by omega⟩
          · intro p hp
            cases hb : nameBad p with
            | false => rfl
            | true => exact absurd (List.any_eq_true.2 ⟨p, hp, hb⟩) h2
          · exact List.all_eq_true.1 h3'

theorem good_chk {m : Man} (h : Good m) : chk m = 0 := by
  have h1 : (vol m.vol.data.toList && mayB m.bvol m.bseq m.vol) = true := by rw [h.vol, h.may]; rfl
  have h3 : right0 m = true := by
    unfold right0
    rw [(nump_iff _).2 h.serial, decide_eq_true h.size.1, decide_eq_true h.size.2]; rfl
  rw [chk_full h1 h.names h3 h.nums, if_neg (by have := h.many; omega)]

theorem vol_size {l : List UInt8} (h : vol l = true) : 1 ≤ l.length ∧ l.length ≤ 32 := by
  unfold vol at h
  simp only [Bool.and_eq_true, decide_eq_true_eq] at h
  exact h.1

theorem may_size {bv v : ByteArray} {bs : Int} (h : mayB bv bs v = true) : bv.data.toList.length ≤ 32 ∧ 0 ≤ bs ∧ bs < 1099511627776 := by
  unfold mayB at h
  simp only [Bool.or_eq_true, Bool.and_eq_true, decide_eq_true_eq, nump_iff] at h
  rcases h with ⟨h1, h2⟩ | ⟨⟨h1, _⟩, h2⟩
  · rw [h1, h2]; simp
  · exact ⟨(vol_size h1).2, h2⟩

theorem prs_at (l : List Snp) (k : Nat) (hk : k < l.length) : (ahead l k, l.getD k Snp.zero) ∈ prs l l.length :=
  prs_mem l (k + 1) _ (by omega) _ (by rw [prs_succ]; exact List.mem_append_right _ (List.mem_singleton.2 rfl))

theorem Good.at {m : Man} (h : Good m) (k : Nat) (hk : k < m.snaps.length) :
    (m.snaps.getD k Snp.zero).name.size ≤ 64 ∧ (0 ≤ (m.snaps.getD k Snp.zero).seq ∧ (m.snaps.getD k Snp.zero).seq < 1099511627776) ∧ (0 ≤ (m.snaps.getD k Snp.zero).upto ∧ (m.snaps.getD k Snp.zero).upto < 1099511627776) := by
  have h1 := h.names _ (prs_at m.snaps k hk)
  have h2 := h.nums _ (prs_at m.snaps k hk)
  unfold nameBad at h1
  unfold numsOk at h2
  simp only [Bool.or_eq_false_iff, decide_eq_false_iff_not, Bool.and_eq_true, nump_iff] at h1 h2
  exact ⟨by omega, h2⟩

theorem txt_length (l : List UInt8) : (txt l).length ≤ l.length + 9 := by
  have := vr_le l.length
  simp [txt]; omega

theorem snapsBytes_take (l : List Snp) (k : Nat) (hk : k < l.length) : snapsBytes (l.take (k + 1)) = snapsBytes (l.take k) ++ snapBytes (l.getD k Snp.zero) := by
  unfold snapsBytes
  rw [List.take_succ_eq_append_getElem hk, List.map_append, List.flatten_append]
  simp [hk]

theorem snapsBytes_le {m : Man} (h : Good m) (k : Nat) (hk : k ≤ m.snaps.length) : (snapsBytes (m.snaps.take k)).length ≤ 91 * k := by
  induction k with
  | zero => simp [snapsBytes]
  | succ k ih =>
    rw [snapsBytes_take _ _ (by omega)]
    have hx := (h.at k (by omega)).1
    have h1 := txt_length (m.snaps.getD k Snp.zero).name.data.toList
    have h2 := vr_le (m.snaps.getD k Snp.zero).seq.toNat
    have h3 := vr_le (m.snaps.getD k Snp.zero).upto.toNat
    have h4 := ih (by omega)
    have h5 : (m.snaps.getD k Snp.zero).name.data.toList.length = (m.snaps.getD k Snp.zero).name.size := by simp
    have h6 : (snapBytes (m.snaps.getD k Snp.zero)).length = (txt (m.snaps.getD k Snp.zero).name.data.toList).length + ((vr (m.snaps.getD k Snp.zero).seq.toNat).length + (vr (m.snaps.getD k Snp.zero).upto.toNat).length) := by simp [snapBytes]
    rw [List.length_append]
    omega

theorem front_le {m : Man} (h : Good m) : (front m).length ≤ 140 := by
  have h1 := txt_length m.vol.data.toList
  have h2 := txt_length m.bvol.data.toList
  have h3 := vr_le m.serial.toNat
  have h4 := vr_le m.size.toNat
  have h5 := vr_le m.bseq.toNat
  have h6 := vr_le m.snaps.length
  have h7 := (vol_size h.vol).2
  have h8 := (may_size h.may).1
  simp only [front, List.length_append, be_length, List.length_cons, List.length_nil]
  omega
end Go.Proofs.Ytmkcphelmgkipaa
