/-
  RuleTells, as it is said: whatever the input, it returns true, and the input reads as it did.
-/
import Derived.Test.YtlgjecmpmifjpaaR1q
import Derived.Test.YtlgjecmpmifjpaaS1k
set_option linter.unusedVariables false
set_option linter.unusedSimpArgs false
namespace Go.Proofs.Ytlgjecmpmifjpaa
open Go.Ab Go.ChangeShapes Go.WideShapes Go.ChangeAt Go.RowKit

set_option maxRecDepth 100000 in
theorem ruleTells_lifted (os : Os) (started : os.Started) (H : Type) (enc : TypeId × Value → H) :
    ReturnsInHanded {} Try.checked os 4 .any (Rows.ruleTellsSpec.pre6 enc Try.prog Try.f4 Rows.ruleTellsRow.domain false) (Rows.ruleTellsSpec.post enc Try.prog Try.f4 false true false false) := by
  refine returnsInHanded_of_change (C := Try.checked) Try.own started (by kernel_rfl) Try.func4
    (ChangeSpec.witness6 (enc := enc) (C := Try.checked) false ⟨#[], #[.agg #[.int .i64 0, .slice none 0 0]], []⟩ 8 (by kernel_rfl) (by kernel_rfl) (by kernel_rfl) (by kernel_rfl)) ?_
  intro W base args ds gs before hval0 hW hcnd _
  have hval : ∀ (j : Nat) t v, Try.f4.params[j]? = some t → args[j]? = some v → Value.okWide Try.prog W .any base t v := hval0
  have hW' := hW
  have hlt : ∀ p ∈ before, p.block < W.heap.size := fun p hp => hW'.lt p hp
  obtain ⟨p, q, hA0, hV, rfl, hfz, hnd⟩ := hW
  have hA : DataW.TrodAll enc Try.prog W 0 (fun _ => true) true Try.f4.params.toList args.toList ds p := hA0
  rw [Try.params4] at hA hval
  obtain ⟨v0, d0, rfl, rfl, h0⟩ := trodAll_one hA
  obtain ⟨rfl, rfl⟩ := trodVars_none hV
  obtain ⟨t, ht⟩ := tree_arg (hval 0 24 v0 rfl rfl) h0
  refine (calls_of (ruleTells_ev t) Try.call4 W #[v0] (fun B => by simp only [List.map, RelVT, RelV]; exact ⟨v0, [], rfl, ht, rfl⟩)).mono fun e W' ⟨val, M', he, hb, hv⟩ => ?_
  obtain ⟨rfl, _⟩ := relV_val (hv [])
  have hr : DataW.Trod enc Try.prog W' W.heap.size (fun _ => false) false 4 (.bool true) (.lit (.bool true)) [] := ⟨1, by simp [DataW.trod, Value.cells, Try.underlying4]⟩
  exact ⟨_, he, [d0], [], _, [], p, [], hW', trodAll_mk1 hr,
    trodAll_mk1 (Below.trod Try.laidOut (by kernel_rfl) (by rw [Try.types_size]; decide) h0 hb (fun x hx => hlt x (by simpa using hx))), rfl, hb.frame _, fun h => by cases h⟩

theorem ruleTells_holds : Rows.RuleTellsSaid :=
  OpenClaim.holds_of_wide 4 Try.f4 rfl rfl rfl rfl rfl rfl rfl ⟨rfl, rfl, rfl, rfl, rfl⟩ rfl rfl rfl rfl rfl (by kernel_rfl) Try.func4 (by kernel_rfl)
    (of_decide_eq_true (by kernel_rfl)) (by unfold Func.isWrapper; first | (rw [if_pos (by decide +kernel)]; kernel_rfl) | (rw [if_neg (by decide +kernel)]; exact ⟨rfl, rfl⟩))
    (fun os started H enc _ => ruleTells_lifted os started H enc)

#print axioms ruleTells_holds

end Go.Proofs.Ytlgjecmpmifjpaa
