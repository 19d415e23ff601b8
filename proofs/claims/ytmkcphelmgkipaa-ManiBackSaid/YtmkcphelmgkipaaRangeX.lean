/- A range over a function whose iterator keeps state of its own in new blocks: what each of the two parties keeps of the other's, told by numbers of blocks. Under the wide fence. -/
import Derived.RangeFuncNested
import Derived.RangeFuncBound
import Derived.RangeFuncCalls
import Derived.RangeFuncLeaves
set_option linter.unusedVariables false
set_option linter.unusedSimpArgs false
namespace Go.Proofs.Ytmkcphelmgkipaa
open Go Go.RowKit

/-- From W to W' the blocks that X names alone may have turned, and there may be new ones. -/
structure KeepsBut (X : Nat → Prop) (W W' : World) : Prop where
  os : W'.os = W.os
  tape : W'.tape = W.tape
  output : W'.output = W.output
  size : W.heap.size ≤ W'.heap.size
  block : ∀ k, k < W.heap.size → ¬ X k → W'.heap[k]? = W.heap[k]?

theorem KeepsBut.refl (X : Nat → Prop) (W : World) : KeepsBut X W W := ⟨rfl, rfl, rfl, Nat.le_refl _, fun _ _ _ => rfl⟩
theorem KeepsBut.trans {X : Nat → Prop} {A B C : World} (h : KeepsBut X A B) (k : KeepsBut X B C) : KeepsBut X A C :=
  ⟨k.os.trans h.os, k.tape.trans h.tape, k.output.trans h.output, Nat.le_trans h.size k.size, fun i hi hx => (k.block i (Nat.lt_of_lt_of_le hi h.size) hx).trans (h.block i hi hx)⟩
theorem KeepsBut.mono {X Y : Nat → Prop} {A B : World} (h : KeepsBut X A B) (hxy : ∀ k, X k → Y k) : KeepsBut Y A B :=
  ⟨h.os, h.tape, h.output, h.size, fun i hi hx => h.block i hi (fun e => hx (hxy i e))⟩
theorem KeepsBut.of_below {X : Nat → Prop} {A B : World} (h : Below A.heap.size A B) : KeepsBut X A B := ⟨h.os, h.tape, h.output, h.size, fun i hi _ => h.block i hi⟩
theorem KeepsBut.below {X : Nat → Prop} {n : Nat} {A B : World} (h : KeepsBut X A B) (hx : ∀ k, X k → n ≤ k) (hn : n ≤ A.heap.size) : Below n A B :=
  ⟨h.os, h.tape, h.output, h.size, fun i hi => h.block i (by omega) (fun e => by have := hx i e; omega)⟩
theorem KeepsBut.setCell {X : Nat → Prop} (W : World) {p : Addr} (hp : X p.block) (u : Value) : KeepsBut X W (W.setCell p u) :=
  ⟨rfl, rfl, rfl, by simp [World.setCell], fun k _ hx => Below.heap_setCell _ _ _ _ (fun e => hx (e ▸ hp))⟩
theorem KeepsBut.putObj {X : Nat → Prop} (W : World) {l : Nat} (hl : X l) (o : Obj) : KeepsBut X W (W.putObj l o) :=
  ⟨rfl, rfl, rfl, by simp, fun k _ hx => World.putObj_heap_other (fun e => hx (e ▸ hl))⟩
theorem KeepsBut.cell {X : Nat → Prop} {A B : World} (h : KeepsBut X A B) {p : Addr} (hp : p.block < A.heap.size) (hx : ¬ X p.block) : B.cell? p = A.cell? p := World.cell?_of_block (h.block _ hp hx)
theorem KeepsBut.frozen {X : Nat → Prop} {A B : World} (h : KeepsBut X A B) {p : Addr} (hp : p.block < A.heap.size) (hx : ¬ X p.block) : B.frozen? p = A.frozen? p := World.frozen?_of_block (h.block _ hp hx)

theorem below_putObj {n : Nat} {A W : World} (h : Below n A W) {l : Nat} (hl : n ≤ l) (o : Obj) : Below n A (W.putObj l o) :=
  h.trans ⟨rfl, rfl, rfl, by simp, fun k hk => World.putObj_heap_other (by omega)⟩

/-- The iterator's contract. 'ok k': the iterator does not mind if a round turns block k. -/
def SeqX {α : Type} (P : Program) (g : Nat) (lb : Array Value) (encs : α → Array Value) (ok : Nat → Prop) (S Sp : List α → Prop) (N : Nat) (w : World) : Prop :=
  ∀ (n l : Nat) (X : Nat → Prop) (J Jx : List α → World → Prop) (W : World), Below w.heap.size w W → (∀ k, X k → ok k ∧ k < W.heap.size) →
    (∀ s A B, J s A → Below W.heap.size A B → J s B) → (∀ s A B, Jx s A → Below W.heap.size A B → Jx s B) →
    (∀ pre x W1, J pre W1 → pre.length < N → W.heap.size ≤ W1.heap.size → YieldAt Fence.wide (n - 1) P l (encs x) W1 fun e W' =>
      (e = .returned (.bool true) ∧ J (pre ++ [x]) W' ∧ KeepsBut X W1 W') ∨ (e = .returned (.bool false) ∧ Jx (pre ++ [x]) W')) →
    J [] W →
    CallsIn Fence.wide n P g (#[.func (.yield l) #[] #[]] ++ lb) W fun e W' => (∃ v, e = .returned v) ∧ ((∃ xs, S xs ∧ J xs W') ∨ (∃ pre, Sp pre ∧ Jx pre W'))

/-- How the body of a round may be left. -/
def ownPostX {α : Type} (X : Nat → Prop) (I : List α → World → Prop) (Ix : Code → List α → World → Prop) (xs : List α) (W : World) : Exit → Act → World → Prop
  | .normal, _, W' => KeepsBut X W W' ∧ I xs W'
  | .ret, _, W' => KeepsBut X W W' ∧ Ix .ret xs W'
  | .exit id, _, W' => KeepsBut X W W' ∧ Ix (.exit id) xs W'
  | .goto t, _, W' => KeepsBut X W W' ∧ Ix (.goto t) xs W'
  | .panic _, _, _ => False
  | .outgrown, _, _ => False

theorem wide_round : Fence.wide.round = none := rfl

theorem wpIn_rangeFunc_X {α : Type} {n : Nat} {P : Program} {g : Operand} {ps : Array Tmp} {assign body : Code} {Q : Exit → Act → World → Prop} {a : Act} {w : World}
    {gf : Nat} {lb : Array Value} (hg : a.eval g = .func (.func gf) #[] lb) (eg : ∀ args w, (callFunc gf args).run P w = .ok (.enter gf args) w)
    {encs : α → Array Value} {ok : Nat → Prop} {S Sp : List α → Prop} {N : Nat} (hseq : SeqX P gf lb encs ok S Sp N w) (hok : ∀ k, w.heap.size ≤ k → ok k) (hps : ∀ x, (encs x).size = ps.size)
    (X : Nat → Prop) (hX : ∀ k, X k → ok k ∧ k < w.heap.size)
    (I : List α → World → Prop) (Ix : Code → List α → World → Prop) (hI : ∀ s A B, I s A → Below w.heap.size A B → I s B) (hIx : ∀ c s A B, Ix c s A → Below w.heap.size A B → Ix c s B) (h0 : I [] w)
    (Ax : Array Value → List α → α → Act → World → Prop) (hAx : ∀ T pre x a' A B, Ax T pre x a' A → (∀ k, k ≠ w.heap.size + 1 → B.heap[k]? = A.heap[k]?) → Ax T pre x a' B)
    (hassign : ∀ pre x W (K : Act → World → Prop), I pre W → w.heap.size + 2 ≤ W.heap.size → (∀ a' W', Below W.heap.size W W' → Ax a.tmps pre x a' W' → K a' W') →
      assign.wpIn (Fence.wide.inRound (w.heap.size + 1)) (n - 1 - 1) P (Exit.then K (fun _ _ _ => False)) { tmps := (ps.zip (encs x)).foldl (fun t (p, v) => t.setIfInBounds p v) a.tmps, defers := [] } W)
    (hbody : ∀ pre x a' W, I pre W → pre.length < N → w.heap.size + 2 ≤ W.heap.size → Ax a.tmps pre x a' W → body.wpIn (Fence.wide.inRound (w.heap.size + 1)) (n - 1 - 1) P (ownPostX X I Ix (pre ++ [x]) W) a' W)
    (hdone : ∀ (D : Nat) (xs : List α) (W : World), w.heap.size ≤ D → S xs → I xs W → W.heap[D]? = some (.deferred (some [])) → Q .normal { a with defers := { target := .collected D, args := #[] } :: a.defers } W)
    (hstop : ∀ (D : Nat) (c : Code) (pre : List α) (W : World), w.heap.size ≤ D → Sp pre → Ix c pre W → W.heap[D]? = some (.deferred (some [])) → c.wpIn Fence.wide n P Q { a with defers := { target := .collected D, args := #[] } :: a.defers } W) :
    (Code.rangeFunc g ps assign body).wpIn Fence.wide n P Q a w := by
  refine wpIn_rangeFunc ?_
  intro fn hfn
  rw [wide_round]
  obtain ⟨rec, hrec⟩ : ∃ rec : LoopState → Option Code → Loop, rec = fun st pe => { state := st, pending := pe, fn, tmps := a.tmps, params := ps, assign, body, defers := w.heap.size } := ⟨_, rfl⟩
  obtain ⟨W1, hW1⟩ : ∃ W1, (w.alloc (.deferred (some []))).alloc (.loop (rec .ready none)) = W1 := ⟨_, rfl⟩
  have hs1 : W1.heap.size = w.heap.size + 2 := by rw [← hW1]; simp
  have hL1 : W1.heap[w.heap.size + 1]? = some (.loop (rec .ready none)) := by
    rw [← hW1]; have := World.alloc_heap_new (w.alloc (.deferred (some []))) (.loop (rec .ready none)); rwa [World.size_alloc] at this
  have hK1 : W1.heap[w.heap.size]? = some (.deferred (some [])) := by
    rw [← hW1]; exact (Below.heap_alloc _ _ _ (by simp)).trans (World.alloc_heap_new w _)
  have hb1 : Below w.heap.size w W1 := by
    rw [← hW1]; exact ((Below.refl _ w).alloc (Nat.le_refl _) _).alloc (by simp) _
  refine ⟨w.heap.size + 1, [{ target := .collected w.heap.size, args := #[] }], W1, { target := .fn (.func gf) lb, args := #[.func (.yield (w.heap.size + 1)) #[] #[]] }, W1, gf,
    #[.func (.yield (w.heap.size + 1)) #[] #[]] ++ lb, W1, ?_, ?_, ?_, ?_, fun h => by simp [Fence.wide] at h, ?_⟩
  · rw [← hW1, hrec]; exact run_enterLoop_outer _ _ _ _ _
  · simp only [resolve, hg]
    simp [go_sem]
  · intro f' _; trivial
  · simp [invoke, go_sem, eg]
  · refine (hseq (n - 1) (w.heap.size + 1) (fun k => X k ∨ k = w.heap.size ∨ k = w.heap.size + 1)
      (fun pre W => I pre W ∧ W.heap[w.heap.size + 1]? = some (.loop (rec .ready none)) ∧ W.heap[w.heap.size]? = some (.deferred (some [])))
      (fun pre W => ∃ c, Ix c pre W ∧ W.heap[w.heap.size + 1]? = some (.loop (rec .done (some c))) ∧ W.heap[w.heap.size]? = some (.deferred (some [])))
      W1 hb1 ?_ ?_ ?_ ?_ ⟨hI _ _ _ h0 hb1, hL1, hK1⟩).mono ?_
    · rintro k (h | h | h)
      · have := hX k h; exact ⟨this.1, by omega⟩
      · exact ⟨hok k (by omega), by omega⟩
      · exact ⟨hok k (by omega), by omega⟩
    · rintro s A B ⟨h1, h2, h3⟩ hb
      exact ⟨hI _ _ _ h1 (hb.mono (by omega)), (hb.block _ (by omega)).trans h2, (hb.block _ (by omega)).trans h3⟩
    · rintro s A B ⟨c, h1, h2, h3⟩ hb
      exact ⟨c, hIx _ _ _ _ h1 (hb.mono (by omega)), (hb.block _ (by omega)).trans h2, (hb.block _ (by omega)).trans h3⟩
    · rintro pre x W ⟨hi, hl, hk⟩ hlen hsz
      have hy := run_yield (P := P) (args := encs x) hl (by rw [hrec]; exact hps x)
      rw [hrec] at hy
      refine ⟨fn, _, assign, body, hy, roundIn_of_wpIn hfn (hassign pre x W _ hi (by omega) ?_)⟩
      intro a' W' hB hax
      have hl' : W'.heap[w.heap.size + 1]? = some (.loop (rec .ready none)) := (hB.block _ (by omega)).trans hl
      have hk' : W'.heap[w.heap.size]? = some (.deferred (some [])) := (hB.block _ (by omega)).trans hk
      have hlt' : w.heap.size + 1 < W'.heap.size := by have := hB.size; omega
      refine ⟨_, run_beginRound hl' (by rw [hrec]), ?_⟩
      have hl2 : (W'.putObj (w.heap.size + 1) (.loop { rec .ready none with state := .busy })).heap[w.heap.size + 1]? = some (.loop { rec .ready none with state := .busy }) := World.putObj_heap_same hlt'
      have hk2 : (W'.putObj (w.heap.size + 1) (.loop { rec .ready none with state := .busy })).heap[w.heap.size]? = some (.deferred (some [])) := (World.putObj_heap_other (by omega)).trans hk'
      have hi2 : I pre (W'.putObj (w.heap.size + 1) (.loop { rec .ready none with state := .busy })) := hI _ _ _ hi (below_putObj (hB.mono (by omega)) (by omega) _)
      have hax2 := hAx a.tmps pre x a' W' (W'.putObj (w.heap.size + 1) (.loop { rec .ready none with state := .busy })) hax (fun k hk => World.putObj_heap_other hk)
      refine wpIn_mono (hbody pre x a' _ hi2 hlen (by simp; omega) hax2) ?_
      have fin : ∀ (jump : Option Code) (W3 : World), KeepsBut X (W'.putObj (w.heap.size + 1) (.loop { rec .ready none with state := .busy })) W3 →
          (Instr.endRound (w.heap.size + 1) jump).run P W3 = .ok (.bool jump.isNone) (W3.putObj (w.heap.size + 1) (.loop (rec (if jump.isNone then .ready else .done) jump))) ∧
          (W3.putObj (w.heap.size + 1) (.loop (rec (if jump.isNone then .ready else .done) jump))).heap[w.heap.size + 1]? = some (.loop (rec (if jump.isNone then .ready else .done) jump)) ∧
          (W3.putObj (w.heap.size + 1) (.loop (rec (if jump.isNone then .ready else .done) jump))).heap[w.heap.size]? = some (.deferred (some [])) ∧
          KeepsBut (fun k => X k ∨ k = w.heap.size ∨ k = w.heap.size + 1) W (W3.putObj (w.heap.size + 1) (.loop (rec (if jump.isNone then .ready else .done) jump))) ∧
          Below w.heap.size W3 (W3.putObj (w.heap.size + 1) (.loop (rec (if jump.isNone then .ready else .done) jump))) := fun jump W3 hk3 => by
        have nX : ∀ k, w.heap.size ≤ k → ¬ X k := fun k hk hx => by have := (hX k hx).2; omega
        have hl3 := (hk3.block (w.heap.size + 1) (by simp; omega) (nX _ (by omega))).trans hl2
        have hk4 := (hk3.block w.heap.size (by simp; omega) (nX _ (by omega))).trans hk2
        have := run_endRound (P := P) jump hl3
        refine ⟨?_, World.putObj_heap_same (Array.getElem?_eq_some_iff.1 hl3).1, (World.putObj_heap_other (by omega)).trans hk4, ?_, below_putObj (Below.refl _ _) (by omega) _⟩
        · rw [hrec] at this ⊢; exact this
        · exact (((KeepsBut.of_below hB).trans (KeepsBut.putObj W' (.inr (.inr rfl)) _)).trans (hk3.mono fun k hk => .inl hk)).trans (KeepsBut.putObj W3 (.inr (.inr rfl)) _)
      rintro e a3 W3 hp
      cases e with
      | normal =>
        obtain ⟨hk3, hi3⟩ := hp
        obtain ⟨hr, hl4, hk4, hkb, hbw⟩ := fin none W3 hk3
        exact ⟨_, _, hr, .inl ⟨rfl, ⟨hI _ _ _ hi3 hbw, hl4, hk4⟩, hkb⟩⟩
      | ret =>
        obtain ⟨hk3, hi3⟩ := hp
        obtain ⟨hr, hl4, hk4, hkb, hbw⟩ := fin (some .ret) W3 hk3
        exact ⟨_, _, hr, .inr ⟨rfl, .ret, hIx _ _ _ _ hi3 hbw, hl4, hk4⟩⟩
      | exit id =>
        obtain ⟨hk3, hi3⟩ := hp
        obtain ⟨hr, hl4, hk4, hkb, hbw⟩ := fin (some (.exit id)) W3 hk3
        exact ⟨_, _, hr, .inr ⟨rfl, .exit id, hIx _ _ _ _ hi3 hbw, hl4, hk4⟩⟩
      | goto t =>
        obtain ⟨hk3, hi3⟩ := hp
        obtain ⟨hr, hl4, hk4, hkb, hbw⟩ := fin (some (.goto t)) W3 hk3
        exact ⟨_, _, hr, .inr ⟨rfl, .goto t, hIx _ _ _ _ hi3 hbw, hl4, hk4⟩⟩
      | panic ch => exact hp.elim
      | outgrown => exact hp.elim
    · rintro e W2 ⟨⟨v, rfl⟩, (⟨xs, hS, hi, hl, hk⟩ | ⟨pre, hSp, c, hi, hl, hk⟩)⟩
      · exact ⟨none, _, by have := run_endLoop (P := P) hl (by rw [hrec]; simp); rw [hrec] at this; exact this, hdone _ xs _ (Nat.le_refl _) hS (hI _ _ _ hi (below_putObj (Below.refl _ _) (by omega) _)) ((World.putObj_heap_other (by omega)).trans hk)⟩
      · exact ⟨some c, _, by have := run_endLoop (P := P) hl (by rw [hrec]; simp); rw [hrec] at this; exact this, hstop _ c pre _ (Nat.le_refl _) hSp (hIx _ _ _ _ hi (below_putObj (Below.refl _ _) (by omega) _)) ((World.putObj_heap_other (by omega)).trans hk)⟩

end Go.Proofs.Ytmkcphelmgkipaa
