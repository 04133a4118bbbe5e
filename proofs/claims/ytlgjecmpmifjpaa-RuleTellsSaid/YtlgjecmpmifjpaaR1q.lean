/-
  RuleCount, as it is said.
-/
import Derived.Test.YtlgjecmpmifjpaaR1z
import Derived.Test.YtlgjecmpmifjpaaR1l
set_option linter.unusedVariables false
set_option linter.unusedSimpArgs false
namespace Go.Proofs.Ytlgjecmpmifjpaa
open Go.Ab Go.ChangeShapes Go.WideShapes Go.ChangeAt Go.RowKit

theorem Try.own : ownKnob Try.prog.godebug = none := by kernel_rfl
theorem Try.laidOut : laidOutB Try.prog = true := by kernel_rfl
theorem mixed : Try.prog.follows .mixedOrders = true := by rfl

/-- A call of a function of the interpreter's, on arguments of the model's. -/
theorem calls_of {f : FuncId} {ps : List PV} {r : AV} (hev : Ev f ps r) (hcall : ∀ (args : Array Value) (w : World), Sem.run Try.prog (callFunc f args) w = .ok (.enter f args) w) (W : World) (avs : Array Value) (hargs : ∀ B, RelVT (memW W) B (ps.map .p) avs.toList) :
    Calls Try.prog f avs W fun e W' => ∃ val M', e = .returned val ∧ Below W.heap.size W W' ∧ ∀ B, RelV M' B r val := by
  obtain ⟨N, h⟩ := hev
  have hr := h N (Nat.le_refl _)
  rw [TP_eq] at hr
  obtain ⟨d, nx, h1, h2, _, h3⟩ := pr_ok (H := HT) mixed hr (w := W) (M := memW W) (avs := avs) (fun b o v hv => hv) hargs
  simp only [Deferred.ofValue, Sem.run_pure, Result.ok.injEq] at h1
  obtain ⟨h1, _⟩ := h1
  subst h1
  simp only [invoke, Array.append_empty, Array.empty_append, hcall, Result.ok.injEq] at h2
  obtain ⟨h2, _⟩ := h2
  subst h2
  exact (callsIn_wide.1 h3).mono fun e W' ⟨val, he, M', _, _, _, hb, hv⟩ => ⟨val, M', he, hb, hv⟩

variable {H : Type} {enc : TypeId × Value → H}

theorem tree_arg {W : World} {base : Nat} {v : Value} {d : DataW H} {p : List MemPlace} (hval : Value.okWide Try.prog W .any base 24 v) (h : DataW.Trod enc Try.prog W 0 (fun _ => true) true 24 v d p) : ∃ t : Tr, RelP (memW W) t.enc v := by
  obtain ⟨fuel, h⟩ := h
  obtain ⟨t, ht⟩ := tree_rel W _ _ fuel _ _ _ h
  unfold Value.okWide at hval
  simp only [Try.underlying24] at hval
  obtain ⟨cs, rfl, _⟩ := hval
  refine ⟨t, ?_⟩
  obtain ⟨o, l⟩ := t
  simp only [Tr.enc, PV.cells] at ht ⊢
  simp only [RelP]
  exact ⟨cs, rfl, ht⟩

set_option maxRecDepth 100000 in
theorem count_lifted (os : Os) (started : os.Started) (H : Type) (enc : TypeId × Value → H) :
    ReturnsInHanded {} Try.checked os 3 .any (Rows.ruleCountSpec.pre6 enc Try.prog Try.f3 Rows.ruleCountRow.domain false) (Rows.ruleCountSpec.post enc Try.prog Try.f3 false true false false) := by
  refine returnsInHanded_of_change (C := Try.checked) Try.own started (by kernel_rfl) Try.func3
    (ChangeSpec.witness6 (enc := enc) (C := Try.checked) false ⟨#[], #[.agg #[.int .i64 0, .slice none 0 0]], []⟩ 8 (by kernel_rfl) (by kernel_rfl) (by kernel_rfl) (by kernel_rfl)) ?_
  intro W base args ds gs before hval0 hW hcnd _
  have hval : ∀ (j : Nat) t v, Try.f3.params[j]? = some t → args[j]? = some v → Value.okWide Try.prog W .any base t v := hval0
  have hW' := hW
  have hlt : ∀ p ∈ before, p.block < W.heap.size := fun p hp => hW'.lt p hp
  obtain ⟨p, q, hA0, hV, rfl, hfz, hnd⟩ := hW
  have hA : DataW.TrodAll enc Try.prog W 0 (fun _ => true) true Try.f3.params.toList args.toList ds p := hA0
  rw [Try.params3] at hA hval
  obtain ⟨v0, d0, rfl, rfl, h0⟩ := trodAll_one hA
  obtain ⟨rfl, rfl⟩ := trodVars_none hV
  obtain ⟨t, ht⟩ := tree_arg (hval 0 24 v0 rfl rfl) h0
  refine (calls_of (ruleCount_ev t) Try.call3 W #[v0] (fun B => by simp only [List.map, RelVT, RelV]; exact ⟨v0, [], rfl, ht, rfl⟩)).mono fun e W' ⟨val, M', he, hb, hv⟩ => ?_
  obtain ⟨rfl, _⟩ := relV_val (hv [])
  have hr : DataW.Trod enc Try.prog W' W.heap.size (fun _ => false) false 4 (.bool true) (.lit (.bool true)) [] := ⟨1, by simp [DataW.trod, Value.cells, Try.underlying4]⟩
  exact ⟨_, he, [d0], [], _, [], p, [], hW', trodAll_mk1 hr,
    trodAll_mk1 (Below.trod Try.laidOut (by kernel_rfl) (by rw [Try.types_size]; decide) h0 hb (fun x hx => hlt x (by simpa using hx))), rfl, hb.frame _, fun h => by cases h⟩

theorem ruleCount_holds : Rows.RuleCountSaid :=
  OpenClaim.holds_of_wide 3 Try.f3 rfl rfl rfl rfl rfl rfl rfl ⟨rfl, rfl, rfl, rfl, rfl⟩ rfl rfl rfl rfl rfl (by kernel_rfl) Try.func3 (by kernel_rfl)
    (of_decide_eq_true (by kernel_rfl)) (by unfold Func.isWrapper; first | (rw [if_pos (by decide +kernel)]; kernel_rfl) | (rw [if_neg (by decide +kernel)]; exact ⟨rfl, rfl⟩))
    (fun os started H enc _ => count_lifted os started H enc)

#print axioms ruleCount_holds

end Go.Proofs.Ytlgjecmpmifjpaa
