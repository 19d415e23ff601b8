import Derived.Test.YtmkcphelmgkipaaT55
set_option linter.unusedVariables false
set_option linter.unusedSimpArgs false
namespace Go.Proofs.Ytmkcphelmgkipaa
open Go.RowKit

/-! Snapshots that are added one by one, in whatever order: the plain law of ManiMany. -/

def KeyOk (x : Snp) : Prop := x.name.toList ≠ [] ∧ x.name.size ≤ 64 ∧ nump x.seq = true ∧ nump x.upto = true

theorem prs_idx (l : List Snp) (n : Nat) : ∀ p ∈ prs l n, ∃ k, k < n ∧ p = (ahead l k, l.getD k Snp.zero) := by
  induction n with
  | zero => intro p hp; cases hp
  | succ n ih =>
    intro p hp
    rw [prs_succ] at hp
    rcases List.mem_append.1 hp with h | h
    · obtain ⟨k, hk, e⟩ := ih p h
      exact ⟨k, by omega, e⟩
    · rw [List.mem_singleton] at h
      exact ⟨n, by omega, h⟩

theorem zero_name : Snp.zero.name.toList = [] := by rw [ByteArray.toList_eq]; rfl

theorem good_keys {m : Man} (h : chk m = 0) : ∀ x ∈ m.snaps, KeyOk x := by
  intro x hx
  have hg := chk_good h
  obtain ⟨k, hk, rfl⟩ := List.mem_iff_getElem.1 hx
  have hp := prs_at m.snaps k hk
  have hb := hg.names _ hp
  have hn := hg.nums _ hp
  have e : m.snaps.getD k Snp.zero = m.snaps[k] := by rw [List.getD_eq_getElem?_getD, List.getElem?_eq_getElem hk]; rfl
  rw [e] at hb hn
  unfold nameBad at hb
  unfold numsOk at hn
  simp only [Bool.or_eq_false_iff, Bool.and_eq_true, decide_eq_false_iff_not] at hb hn
  refine ⟨fun e0 => ?_, by omega, hn.1, hn.2⟩
  have ht := bl_total m.snaps[k].name.toList (ahead m.snaps k).name.toList
  rw [hb.1.1, e0, bl_empty] at ht
  have h2 := hb.1.2
  rw [e0] at h2
  simp at ht
  rw [ht] at h2
  simp at h2

theorem keys_good {m : Man} (hv : vol m.vol.data.toList = true) (hm : mayB m.bvol m.bseq m.vol = true) (hs : 0 ≤ m.serial ∧ m.serial < 1099511627776) (hz : 1 ≤ m.size ∧ m.size ≤ 65536) (hst : Strict m.snaps) (hk : ∀ x ∈ m.snaps, KeyOk x) (hl : m.snaps.length ≤ 100) : chk m = 0 := by
  refine good_chk ⟨hv, hm, hs, hz, fun p hp => ?_, fun p hp => ?_, hl⟩
  · obtain ⟨k, hkl, rfl⟩ := prs_idx _ _ p hp
    have hx := hk (m.snaps.getD k Snp.zero) (by rw [List.getD_eq_getElem?_getD, List.getElem?_eq_getElem hkl]; exact List.getElem_mem hkl)
    refine nameBad_not ?_ (by show ¬ 64 < (m.snaps.getD k Snp.zero).name.size; have := hx.2.1; omega)
    show Op.bytesLess (ahead m.snaps k).name.toList (m.snaps.getD k Snp.zero).name.toList = true
    unfold ahead
    by_cases h0 : k = 0
    · rw [if_pos h0, zero_name]
      cases hn : (m.snaps.getD k Snp.zero).name.toList with
      | nil => exact absurd hn hx.1
      | cons a r => rfl
    · rw [if_neg h0]
      have := (List.pairwise_iff_getElem.1 hst) (k - 1) k (by omega) hkl (by omega)
      rw [List.getD_eq_getElem?_getD, List.getD_eq_getElem?_getD, List.getElem?_eq_getElem hkl, List.getElem?_eq_getElem (show k - 1 < m.snaps.length by omega)]
      exact this
  · obtain ⟨k, hkl, rfl⟩ := prs_idx _ _ p hp
    have hx := hk (m.snaps.getD k Snp.zero) (by rw [List.getD_eq_getElem?_getD, List.getElem?_eq_getElem hkl]; exact List.getElem_mem hkl)
    show numsOk (_, _) = true
    unfold numsOk
    rw [hx.2.2.1, hx.2.2.2]
    rfl

/-- May all of a list be added? -/
def Fresh (s l : List Snp) : Prop := (∀ x ∈ l, s.any (isN x.name) = false) ∧ l.Pairwise fun x y => isN y.name x = false

theorem isN_symm (x y : Snp) : isN y.name x = isN x.name y := by
  unfold isN
  rw [Bool.eq_iff_iff, beq_iff_eq, beq_iff_eq]
  exact ⟨Eq.symm, Eq.symm⟩

theorem add_fresh : ∀ (l s : List Snp), addL s l ≠ none ↔ Fresh s l
  | [], s => by simp [addL, Fresh]
  | x :: r, s => by
    have ih := add_fresh r (s ++ [x])
    simp only [addL]
    unfold Fresh at *
    by_cases hx : s.any (isN x.name) = true
    · rw [if_pos hx]
      constructor
      · intro h; exact absurd rfl h
      · rintro ⟨h, _⟩
        have := h x (by simp)
        rw [this] at hx; cases hx
    · rw [if_neg hx, ih]
      have hx' : s.any (isN x.name) = false := by simpa using hx
      constructor
      · rintro ⟨h1, h2⟩
        refine ⟨fun y hy => ?_, List.pairwise_cons.2 ⟨fun y hy => ?_, h2⟩⟩
        · rcases List.mem_cons.1 hy with rfl | hy
          · exact hx'
          · have := h1 y hy
            rw [List.any_append, Bool.or_eq_false_iff] at this
            exact this.1
        · have := h1 y hy
          rw [List.any_append, Bool.or_eq_false_iff] at this
          simpa using this.2
      · rintro ⟨h1, h2⟩
        rw [List.pairwise_cons] at h2
        refine ⟨fun y hy => ?_, h2.2⟩
        rw [List.any_append, Bool.or_eq_false_iff]
        exact ⟨h1 y (List.mem_cons_of_mem _ hy), by simpa using h2.1 y hy⟩

theorem fresh_perm {s l k : List Snp} (h : Fresh s l) (hp : k.Perm l) : Fresh s k :=
  ⟨fun x hx => h.1 x (hp.mem_iff.1 hx), hp.symm.pairwise h.2 (fun {a b} hab => by rw [isN_symm]; exact hab)⟩

theorem withL_append : ∀ (a b s : List Snp), withL s (a ++ b) = (withL s a).bind fun t => withL t b
  | [], b, s => rfl
  | x :: a, b, s => by
    simp only [List.cons_append, withL]
    split
    · rfl
    · exact withL_append a b _

def oneM (m : Man) (n : Nat) (s : List Snp) : Man := ⟨m.vol, m.key, m.serial + n, m.size, m.bvol, m.bseq, s⟩

theorem many_law {m a : Man} {l k : List Snp} (h : withM m l = (a, 0)) (hser : m.serial ≤ 1099511600000) (hl : l.length ≤ 10) (hp : k.Perm l) :
    ∃ S : Nat → List Snp, S 0 = m.snaps ∧ (∀ n, (S n).length ≤ 100) ∧ (∀ n (hn : n < k.length), withM (oneM m n (S n)) [k[n]] = (oneM m (n + 1) (S (n + 1)), 0)) ∧ a = oneM m 1 (S k.length) := by
  unfold withM at h
  split at h
  · rename_i hc; exact absurd (congrArg Prod.snd h) hc
  · rename_i hc
    have hc : chk m = 0 := by simpa using hc
    split at h
    · cases h
    · rename_i t ht
      unfold turned at h
      split at h
      · rename_i hca
        have ea : (m.with t).up = a := congrArg Prod.fst h
        have hg := chk_good hc
        have hst := good_strict hc
        have hlen := hp.length_eq
        -- all is fresh
        have hadd : addL m.snaps l ≠ none := fun e => by rw [((add_with l m.snaps m.snaps (List.Perm.refl _)).1).1 e] at ht; cases ht
        have hfr := fresh_perm ((add_fresh l m.snaps).1 hadd) hp
        have haddk := (add_fresh k m.snaps).2 hfr
        obtain ⟨tk, htk⟩ : ∃ tk, withL m.snaps k = some tk := by
          cases e : withL m.snaps k with
          | none => exact absurd (((add_with k m.snaps m.snaps (List.Perm.refl _)).1).2 e) haddk
          | some tk => exact ⟨tk, rfl⟩
        have perm_of : ∀ (q s : List Snp), withL m.snaps q = some s → s.Perm (m.snaps ++ q) := fun q s hs => by
          cases e : addL m.snaps q with
          | none => rw [((add_with q m.snaps m.snaps (List.Perm.refl _)).1).1 e] at hs; cases hs
          | some b =>
            have := (add_with q m.snaps m.snaps (List.Perm.refl _)).2 b s e hs
            rw [addL_eq _ _ _ e] at this
            exact this.symm
        have hpt : tk.Perm t := (perm_of k tk htk).trans ((List.Perm.append_left _ hp).trans (perm_of l t ht).symm)
        have htt : tk = t := by
          refine rise_unique t tk (with_strict l _ _ hst ht) ?_ hpt
          have := with_strict k _ _ hst htk
          exact this.imp (fun {x y} hxy => bl_asymm hxy)
        have hkeys := good_keys hca
        have hmany : t.length ≤ 100 := (chk_good hca).many
        -- each head of k
        have part : ∀ n, ∃ s, withL m.snaps (k.take n) = some s := fun n => by
          have := withL_append (k.take n) (k.drop n) m.snaps
          rw [List.take_append_drop, htk] at this
          cases e : withL m.snaps (k.take n) with
          | none => rw [e] at this; cases this
          | some s => exact ⟨s, rfl⟩
        obtain ⟨S, hS⟩ : ∃ S : Nat → List Snp, ∀ n, withL m.snaps (k.take n) = some (S n) := ⟨fun n => (withL m.snaps (k.take n)).getD [], fun n => by obtain ⟨s, hs⟩ := part n; show _ = some ((withL m.snaps (List.take n k)).getD []); rw [hs]; rfl⟩
        have hmem : ∀ n x, x ∈ S n → x ∈ t := fun n x hx => by
          have h1 := (perm_of _ _ (hS n)).mem_iff.1 hx
          refine (perm_of l t ht).mem_iff.2 ?_
          rcases List.mem_append.1 h1 with h1 | h1
          · exact List.mem_append_left _ h1
          · exact List.mem_append_right _ (hp.mem_iff.1 (List.mem_of_mem_take h1))
        have hSl : ∀ n, (S n).length ≤ t.length := fun n => by
          rw [(perm_of _ _ (hS n)).length_eq, (perm_of l t ht).length_eq, List.length_append, List.length_append, List.length_take, hlen]
          omega
        have hSchk : ∀ n, n ≤ 11 → chk (oneM m n (S n)) = 0 := fun n hn =>
          keys_good hg.vol hg.may (by show 0 ≤ m.serial + n ∧ m.serial + n < 1099511627776; have := hg.serial; omega) hg.size (with_strict _ _ _ hst (hS n)) (fun x hx => hkeys x (hmem n x hx)) (by show (S n).length ≤ 100; have := hSl n; omega)
        refine ⟨S, ?_, fun n => by have := hSl n; omega, fun n hn => ?_, ?_⟩
        · have := hS 0
          simp [withL] at this
          exact this.symm
        · have hstep : withL (S n) [k[n]] = some (S (n + 1)) := by
            have e := withL_append (k.take n) [k[n]] m.snaps
            rw [hS n] at e
            have e2 : k.take n ++ [k[n]] = k.take (n + 1) := by rw [List.take_add_one, List.getElem?_eq_getElem hn]; rfl
            rw [e2, hS (n + 1)] at e
            exact e.symm
          unfold withM
          rw [hSchk n (by omega), if_neg (by simp)]
          show (match withL (S n) [k[n]] with | none => (Man.zero, 16) | some s => turned (((oneM m n (S n)).with s).up)) = _
          rw [hstep]
          show turned _ = _
          have eu : ((oneM m n (S n)).with (S (n + 1))).up = oneM m (n + 1) (S (n + 1)) := by
            unfold oneM Man.with Man.up
            simp only [Man.mk.injEq, true_and, and_true]
            omega
          rw [eu]
          unfold turned
          rw [hSchk (n + 1) (by omega), if_pos rfl]
        · have e := hS k.length
          rw [List.take_length, htk] at e
          have e' : tk = S k.length := Option.some.inj e
          rw [← ea, ← e', htt]
          rfl
      · rename_i hca; exact absurd (congrArg Prod.snd h) hca
end Go.Proofs.Ytmkcphelmgkipaa
