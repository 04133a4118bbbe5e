/-
  RuleTwo, as it is said: whatever the input, it returns true, and the input reads as it did.
-/
import Derived.Test.YtlgjecmpmifjpaaR1q
import Derived.Test.YtlgjecmpmifjpaaR1n
set_option linter.unusedVariables false
set_option linter.unusedSimpArgs false
namespace Go.Proofs.Ytlgjecmpmifjpaa
open Go.Ab Go.ChangeShapes Go.WideShapes Go.ChangeAt Go.RowKit

set_option maxRecDepth 100000 in
theorem ruleTwo_lifted (os : Os) (started : os.Started) (H : Type) (enc : TypeId × Value → H) :
    ReturnsInHanded {} Try.checked os 5 .any (Rows.ruleTwoSpec.pre6 enc Try.prog Try.f5 Rows.ruleTwoRow.domain false) (Rows.ruleTwoSpec.post enc Try.prog Try.f5 false true false false) := by
  refine returnsInHanded_of_change (C := Try.checked) Try.own started (by kernel_rfl) Try.func5
    (ChangeSpec.witness6 (enc := enc) (C := Try.checked) false ⟨#[], #[.agg #[.int .i64 0, .slice none 0 0], .int .i64 0], []⟩ 8 (by kernel_rfl) (by kernel_rfl) (by kernel_rfl) (by kernel_rfl)) ?_
  intro W base args ds gs before hval0 hW hcnd _
  have hval : ∀ (j : Nat) t v, Try.f5.params[j]? = some t → args[j]? = some v → Value.okWide Try.prog W .any base t v := hval0
  have hW' := hW
  have hlt : ∀ p ∈ before, p.block < W.heap.size := fun p hp => hW'.lt p hp
  obtain ⟨p, q, hA0, hV, rfl, hfz, hnd⟩ := hW
  have hA : DataW.TrodAll enc Try.prog W 0 (fun _ => true) true Try.f5.params.toList args.toList ds p := hA0
  rw [Try.params5] at hA hval
  obtain ⟨v0, v1, d0, d1, p0, p1, rfl, rfl, rfl, h0, h1⟩ := trodAll_two hA
  obtain ⟨rfl, rfl⟩ := trodVars_none hV
  obtain ⟨t, ht⟩ := tree_arg (hval 0 24 v0 rfl rfl) h0
  obtain ⟨i, rfl⟩ := okWide_int (k := .i64) (by rw [Try.underlying3]) (hval 1 3 v1 rfl rfl)
  refine (calls_of (ruleTwo_ev t i) Try.call5 W #[v0, .int .i64 i] (fun B => by simp only [List.map, RelVT, RelV]; exact ⟨v0, [.int .i64 i], rfl, ht, .int .i64 i, [], rfl, by simp only [iV, RelP]; exact ⟨trivial, rfl⟩, rfl⟩)).mono fun e W' ⟨val, M', he, hb, hv⟩ => ?_
  obtain ⟨rfl, _⟩ := relV_val (hv [])
  have hr : DataW.Trod enc Try.prog W' W.heap.size (fun _ => false) false 4 (.bool true) (.lit (.bool true)) [] := ⟨1, by simp [DataW.trod, Value.cells, Try.underlying4]⟩
  exact ⟨_, he, [d0, d1], [], _, [], _, [], hW', trodAll_mk1 hr,
    trodAll_mk2 (Below.trod Try.laidOut (by kernel_rfl) (by rw [Try.types_size]; decide) h0 hb (fun x hx => hlt x (by simp [hx]))) (Below.trod Try.laidOut (by kernel_rfl) (by rw [Try.types_size]; decide) h1 hb (fun x hx => hlt x (by simp [hx]))), rfl, hb.frame _, fun h => by cases h⟩

theorem ruleTwo_holds : Rows.RuleTwoSaid :=
  OpenClaim.holds_of_wide 5 Try.f5 rfl rfl rfl rfl rfl rfl rfl ⟨rfl, rfl, rfl, rfl, rfl⟩ rfl rfl rfl rfl rfl (by kernel_rfl) Try.func5 (by kernel_rfl)
    (of_decide_eq_true (by kernel_rfl)) (by unfold Func.isWrapper; first | (rw [if_pos (by decide +kernel)]; kernel_rfl) | (rw [if_neg (by decide +kernel)]; exact ⟨rfl, rfl⟩))
    (fun os started H enc _ => ruleTwo_lifted os started H enc)

#print axioms ruleTwo_holds

end Go.Proofs.Ytlgjecmpmifjpaa
