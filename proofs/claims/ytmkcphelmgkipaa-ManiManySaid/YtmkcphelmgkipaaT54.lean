import Derived.Test.YtmkcphelmgkipaaT51
import Derived.Test.YtmkcphelmgkipaaT52
import Derived.Test.YtmkcphelmgkipaaT53

set_option linter.unusedVariables false
set_option linter.unusedSimpArgs false
namespace Go.Proofs.Ytmkcphelmgkipaa
open Go.RowKit

/-! Snapshots more: what comes of it, as a plain function. -/

def lessS (x y : Snp) : Bool := Op.bytesLess x.name.toList y.name.toList
/-- A snapshot put in its place. -/
def ins (x : Snp) (l : List Snp) : List Snp := l.takeWhile (fun y => lessS y x) ++ x :: l.dropWhile (fun y => lessS y x)
/-- Snapshots put in their places, one by one; none: one of them was there. -/
def withL : List Snp → List Snp → Option (List Snp)
  | s, [] => some s
  | s, x :: r => if (s.any (isN x.name)) = true then none else withL (ins x s) r
/-- Snapshots added at the end, one by one; none: one of them was there. -/
def addL : List Snp → List Snp → Option (List Snp)
  | s, [] => some s
  | s, x :: r => if (s.any (isN x.name)) = true then none else addL (s ++ [x]) r

def Man.with (m : Man) (s : List Snp) : Man := ⟨m.vol, m.key, m.serial, m.size, m.bvol, m.bseq, s⟩

def withM (m : Man) (l : List Snp) : Man × Int :=
  if chk m ≠ 0 then (Man.zero, chk m) else match withL m.snaps l with | none => (Man.zero, 16) | some s => turned (m.with s).up

def Strict (l : List Snp) : Prop := l.Pairwise fun x y => lessS x y = true

theorem ins_perm (x : Snp) (l : List Snp) : (ins x l).Perm (l ++ [x]) := by
  unfold ins
  have h := List.takeWhile_append_dropWhile (p := fun y => lessS y x) (l := l)
  have h1 : (l.takeWhile (fun y => lessS y x) ++ x :: l.dropWhile (fun y => lessS y x)).Perm (x :: (l.takeWhile (fun y => lessS y x) ++ l.dropWhile (fun y => lessS y x))) := List.perm_middle
  rw [h] at h1
  exact h1.trans (List.perm_append_singleton x l).symm

theorem any_perm {s t : List Snp} (h : s.Perm t) (p : Snp → Bool) : s.any p = t.any p := by
  rw [Bool.eq_iff_iff, List.any_eq_true, List.any_eq_true]
  exact ⟨fun ⟨x, hx, hp⟩ => ⟨x, h.mem_iff.1 hx, hp⟩, fun ⟨x, hx, hp⟩ => ⟨x, h.mem_iff.2 hx, hp⟩⟩

theorem add_with : ∀ (l s t : List Snp), s.Perm t → (addL s l = none ↔ withL t l = none) ∧ ∀ a b, addL s l = some a → withL t l = some b → a.Perm b
  | [], s, t, h => ⟨by simp [addL, withL], fun a b ha hb => by simp [addL, withL] at ha hb; subst ha hb; exact h⟩
  | x :: r, s, t, h => by
    have ea := any_perm h (isN x.name)
    simp only [addL, withL, ea]
    split
    · exact ⟨by simp, fun a b ha => by cases ha⟩
    · exact add_with r (s ++ [x]) (ins x t) ((List.Perm.append_right [x] h).trans (ins_perm x t).symm)

theorem less_trans {x y z : Snp} (h1 : lessS x y = true) (h2 : lessS y z = true) : lessS x z = true := bl_trans _ _ _ h1 h2

theorem ins_strict {x : Snp} {l : List Snp} (h : Strict l) (hx : l.any (isN x.name) = false) : Strict (ins x l) := by
  unfold Strict ins at *
  have hl := List.takeWhile_append_dropWhile (p := fun y => lessS y x) (l := l)
  have hd : ∀ y ∈ l.dropWhile (fun y => lessS y x), lessS x y = true := by
    intro y hy
    cases hdl : l.dropWhile (fun y => lessS y x) with
    | nil => rw [hdl] at hy; cases hy
    | cons z t =>
      rw [hdl] at hy hl
      have hz : lessS z x = false := by
        have := List.head_dropWhile_not (fun y => lessS y x) (l := l) (by rw [hdl]; simp)
        simpa [hdl] using this
      have hzn : isN x.name z = false := by
        rw [List.any_eq_false] at hx
        have := hx z (by rw [← hl]; simp)
        simpa using this
      have hxz : lessS x z = true := by
        cases h2 : lessS x z with
        | true => rfl
        | false => have := bl_eq hz h2; unfold isN at hzn; rw [this] at hzn; simp at hzn
      rcases List.mem_cons.1 hy with rfl | hy
      · exact hxz
      · rw [← hl, List.pairwise_append] at h
        exact less_trans hxz ((List.pairwise_cons.1 h.2.1).1 y hy)
  have ht : ∀ y ∈ l.takeWhile (fun y => lessS y x), lessS y x = true := fun y hy => by
    have := List.all_takeWhile (p := fun y => lessS y x) (l := l)
    exact List.all_eq_true.1 this y hy
  rw [← hl, List.pairwise_append] at h
  rw [List.pairwise_append]
  refine ⟨h.1, List.pairwise_cons.2 ⟨hd, h.2.1⟩, fun a ha b hb => ?_⟩
  rcases List.mem_cons.1 hb with rfl | hb
  · exact ht a ha
  · exact less_trans (ht a ha) (hd b hb)

theorem with_strict : ∀ (l s t : List Snp), Strict s → withL s l = some t → Strict t
  | [], s, t, h, e => by simp [withL] at e; subst e; exact h
  | x :: r, s, t, h, e => by
    simp only [withL] at e
    split at e
    · cases e
    · rename_i hx
      exact with_strict r _ t (ins_strict h (by simpa using hx)) e

/-- A list that rises, of what another one that rises strictly holds, is that one. -/
theorem rise_unique : ∀ (s l : List Snp), Strict s → (l.Pairwise fun x y => lessS y x = false) → l.Perm s → l = s
  | [], l, _, _, h => h.eq_nil
  | a :: t, [], _, _, h => by have := h.length_eq; simp at this
  | a :: t, b :: u, hs, hl, h => by
    rw [Strict, List.pairwise_cons] at hs
    rw [List.pairwise_cons] at hl
    by_cases e : b = a
    · subst e
      rw [rise_unique t u hs.2 hl.2 (List.Perm.cons_inv h)]
    · exfalso
      have hb : b ∈ t := by
        have := h.mem_iff.1 (List.mem_cons_self (a := b) (l := u))
        rcases List.mem_cons.1 this with h' | h'
        · exact absurd h' e
        · exact h'
      have ha : a ∈ u := by
        have := h.mem_iff.2 (List.mem_cons_self (a := a) (l := t))
        rcases List.mem_cons.1 this with h' | h'
        · exact absurd h'.symm e
        · exact h'
      have h1 := hs.1 b hb
      have h2 := hl.1 a ha
      rw [h1] at h2
      cases h2

theorem rising_pair {l : List Snp} (h : Rising l) : l.Pairwise fun x y => lessS y x = false := by
  rw [List.pairwise_iff_getElem]
  intro i j hi hj hij
  have := h i j hij hj
  rw [List.getD_eq_getElem?_getD, List.getD_eq_getElem?_getD, List.getElem?_eq_getElem hj, List.getElem?_eq_getElem hi] at this
  exact this

/-- The sorted one of what was added is what was put in place. -/
theorem sort_with {s l a t b : List Snp} (hs : Strict s) (ha : addL s l = some a) (ht : withL s l = some t) (hp : b.Perm a) (hr : Rising b) : b = t :=
  rise_unique t b (with_strict l s t hs ht) (rising_pair hr) (hp.trans ((add_with l s s (List.Perm.refl _)).2 a t ha ht))

theorem good_strict {m : Man} (h : chk m = 0) : Strict m.snaps := by
  have hg := chk_good h
  have step : ∀ k, k + 1 < m.snaps.length → lessS (m.snaps.getD k Snp.zero) (m.snaps.getD (k + 1) Snp.zero) = true := by
    intro k hk
    have hb := hg.names _ (prs_at m.snaps (k + 1) hk)
    unfold ahead at hb
    rw [if_neg (by omega), Nat.add_sub_cancel] at hb
    generalize m.snaps.getD (k + 1) Snp.zero = y at *
    generalize m.snaps.getD k Snp.zero = x at *
    unfold nameBad at hb
    simp only [Bool.or_eq_false_iff] at hb
    have ht := bl_total y.name.toList x.name.toList
    rw [hb.1.1] at ht
    unfold lessS
    cases hl : Op.bytesLess x.name.toList y.name.toList with
    | true => rfl
    | false =>
      have := bl_eq hl hb.1.1
      have h2 := hb.1.2
      rw [this] at h2
      simp at h2
  have far : ∀ d k, k + d + 1 < m.snaps.length → lessS (m.snaps.getD k Snp.zero) (m.snaps.getD (k + d + 1) Snp.zero) = true := by
    intro d
    induction d with
    | zero => intro k hk; exact step k hk
    | succ d ih => intro k hk; exact less_trans (ih k (by omega)) (step (k + d + 1) hk)
  unfold Strict
  rw [List.pairwise_iff_getElem]
  intro i j hi hj hij
  have := far (j - i - 1) i (by omega)
  rw [show i + (j - i - 1) + 1 = j by omega, List.getD_eq_getElem?_getD, List.getD_eq_getElem?_getD, List.getElem?_eq_getElem hj, List.getElem?_eq_getElem hi] at this
  exact this
end Go.Proofs.Ytmkcphelmgkipaa
