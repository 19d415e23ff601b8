/- For every manifest, every slice of snapshots and every two integers (whatever the input) the law ManiMany returns true, and each argument reads behind the call as it read before: on no further condition. -/
import Derived.Test.YtmkcphelmgkipaaRows
import Derived.Test.YtmkcphelmgkipaaT66
import Derived.Test.YtmkcphelmgkipaaT64
import Derived.ProofKit
import Derived.SizedLaws
set_option linter.unusedVariables false
set_option linter.unusedSimpArgs false
namespace Go.Proofs.Ytmkcphelmgkipaa
open Go.ChangeShapes Go.WideShapes Go.ChangeAt Go.RowKit

theorem Try.own : ownKnob Try.prog.godebug = none := by kernel_rfl
theorem Try.laidOut : laidOutB Try.prog = true := by kernel_rfl

set_option maxRecDepth 100000 in
theorem maniMany_lifted (os : Os) (started : os.Started) (H : Type) (enc : TypeId × Value → H) :
    ReturnsInHanded {} Try.checked os 5 .any (Rows.maniManySpec.pre6 enc Try.prog Try.f5 Rows.maniManyRow.domain false) (Rows.maniManySpec.post enc Try.prog Try.f5 false true false false) := by
  refine returnsInHanded_of_change (C := Try.checked) Try.own started (by kernel_rfl) Try.func5
    (ChangeSpec.witness6 (enc := enc) (C := Try.checked) false ⟨#[], #[.agg #[.string ⟨#[]⟩, .int .u64 0, .int .i64 0, .int .i64 0, .string ⟨#[]⟩, .int .i64 0, .slice none 0 0], .slice none 0 0, .agg #[.int .i64 0, .int .i64 0]], []⟩ 8 (by kernel_rfl) (by kernel_rfl) (by kernel_rfl) (by kernel_rfl)) ?_
  intro W base args ds gs before hval0 hW hcnd _
  have hval : ∀ (j : Nat) t v, Try.f5.params[j]? = some t → args[j]? = some v → Value.okWide Try.prog W .any base t v := hval0
  have hW' := hW
  obtain ⟨p, q, hA0, hV, rfl, _, _⟩ := hW
  have hA : DataW.TrodAll enc Try.prog W 0 (fun _ => true) true Try.f5.params.toList args.toList ds p := hA0
  rw [Try.params5] at hA hval
  obtain ⟨v0, v1, v2, d0, d1, d2, p0, p1, p2, rfl, rfl, rfl, h0, h1, h2⟩ := trodAll_three hA
  obtain ⟨rfl, rfl⟩ := trodVars_none hV
  have h0k := h0
  have h1k := h1
  have h2k := h2
  obtain ⟨m, sv, rfl, hS, hin⟩ := open_man (hval 0 29 v0 rfl rfl) h0
  obtain ⟨l, hL, _, hll, _⟩ := open_list (hval 1 27 v1 rfl rfl) h1
  obtain ⟨x, y, rfl, hx, hy⟩ := open_two (hval 2 46 v2 rfl rfl) h2
  clear hA0 hval0
  simp only [List.append_nil] at hW'
  have hlt0 : ∀ z ∈ p0, z.block < W.heap.size := fun z hz => by simpa using hW'.lt z (by simp [hz])
  have hlt1 : ∀ z ∈ p1, z.block < W.heap.size := fun z hz => by simpa using hW'.lt z (by simp [hz])
  have hlt2 : ∀ z ∈ p2, z.block < W.heap.size := fun z hz => by simpa using hW'.lt z (by simp [hz])
  have fin : ∀ W' : World, Below W.heap.size W W' →
      Rows.maniManySpec.post enc Try.checked.prog Try.f5 false true false false W #[m.val sv, v1, .agg #[.int .i64 x, .int .i64 y]] (.bool true) W' := by
    intro W' hnx
    refine ⟨_, _, _, [] ++ [], p0 ++ (p1 ++ p2), [], hW', ?_, ?_, rfl, hnx.frame _, fun h => by cases h⟩
    · exact trodAll_mk1 (shut_bool Try.underlying4 true)
    · exact trodAll_mk3 (Below.trod Try.laidOut (by kernel_rfl) (of_decide_eq_true (by kernel_rfl)) h0k hnx hlt0) (Below.trod Try.laidOut (by kernel_rfl) (of_decide_eq_true (by kernel_rfl)) h1k hnx hlt1) (Below.trod Try.laidOut (by kernel_rfl) (of_decide_eq_true (by kernel_rfl)) h2k hnx hlt2)
  refine (many_any m sv l v1 x y W hS hL (by have := hin.len; simpa [maxLen] using this) (by simpa [maxLen] using hll) hx hy hin.serial).mono fun e W' ⟨he, hb⟩ => ?_
  subst he
  exact ⟨_, rfl, fin _ hb⟩

theorem maniMany_holds : Rows.ManiManySaid :=
  OpenClaim.holds_of_wide 5 Try.f5 rfl rfl rfl rfl rfl rfl rfl ⟨rfl, rfl, rfl, rfl, rfl⟩ rfl rfl rfl rfl rfl (by kernel_rfl) Try.func5 (by kernel_rfl)
    (of_decide_eq_true (by kernel_rfl)) (by unfold Func.isWrapper; first | (rw [if_pos (by decide +kernel)]; kernel_rfl) | (rw [if_neg (by decide +kernel)]; exact ⟨rfl, rfl⟩))
    (fun os started H enc _ => maniMany_lifted os started H enc)
#print axioms maniMany_holds
end Go.Proofs.Ytmkcphelmgkipaa
