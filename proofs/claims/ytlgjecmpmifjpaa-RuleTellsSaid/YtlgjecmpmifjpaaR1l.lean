/-
  RuleCount.
-/
import Derived.Test.YtlgjecmpmifjpaaR1k
set_option linter.unusedVariables false
set_option linter.unusedSimpArgs false
namespace Go.Ab
open Go.Proofs

theorem bt_of_set : ∀ (d : Nat) (t : Tr), (setS d t).2 = true → ∃ b : BT, t = b.tr
  | 0, t, h => by simp [setS] at h
  | d + 1, .mk o l, h => by
    unfold setS at h
    split at h
    · simp only [Bool.and_eq_true, decide_eq_true_eq] at h
      refine ⟨.lf o.toNat, ?_⟩
      simp only [BT.tr]
      rw [Int.toNat_of_nonneg h.1]
    · rename_i a b
      split at h
      · rename_i ho
        simp only [Bool.and_eq_true] at h
        obtain ⟨x, rfl⟩ := bt_of_set d a h.1.1
        obtain ⟨y, rfl⟩ := bt_of_set d b h.1.2
        exact ⟨.jn x y, by simp only [BT.tr, ho]⟩
      · cases h
    · cases h
theorem bt_of_may {t : Tr} (h : mayT t = true) : ∃ b : BT, t = b.tr ∧ b.ok = true ∧ b ∈ A4 := by
  obtain ⟨b, rfl⟩ := bt_of_set 4 t h
  have := ok_in (b := b) h
  exact ⟨b, rfl, h, mem_A4.2 ⟨_, this.1, this.2⟩⟩

theorem eachS_joins : ∀ b : BT, (eachS b).length = joinsS b
  | .lf i => by simp [eachS, joinsS]
  | .jn a b => by
    have h1 := eachS_joins a
    have h2 := eachS_joins b
    cases a with
    | lf i => simp [eachS, joinsS, moveS] at h1 h2 ⊢; omega
    | jn c d =>
      have hm : (moveS (.jn (.jn c d) b)).2 = true := rfl
      simp only [eachS, hm, if_true, List.length_append, List.length_map, List.length_singleton, joinsS] at h1 h2 ⊢
      omega

set_option maxHeartbeats 1000000 in
theorem ruleCount_ev (t : Tr) : Ev 3 [t.enc] (.p (bV true)) := by
  obtain ⟨N1, h1⟩ := awake_ev
  obtain ⟨N2, h2⟩ := size_ev t 100 (by omega) (by omega)
  obtain ⟨N3, h3⟩ := may_ev t
  obtain ⟨o, l, ht⟩ := tr_form t
  have hd := dr3
  simp only [regsF, Try.f3, regs, List.map, List.nil_append, List.append_nil, List.cons_append, List.cons.injEq, Prod.mk.injEq, and_true] at hd
  cases hm : mayT t with
  | false =>
    obtain ⟨N4, h4⟩ := next_no t hm
    refine ⟨N1 + N2 + N3 + N4 + 1, fun n hn => ?_⟩
    obtain ⟨m, rfl⟩ : ∃ m, n = m + 1 := ⟨n - 1, by omega⟩
    have h1 := h1 m (by omega)
    have h2 := h2 m (by omega)
    have h3 := h3 m (by omega)
    have h4 := h4 m (by omega)
    rw [pr_run fn3]
    simp only [ht, iV, bV, hm] at h1 h2 h3 h4 ⊢
    by_cases hs : sizeS t 100 > 100
    · simp -implicitDefEqProofs [bodyR, Try.f3, argTm, h1, h2, h3, h4, hs]
    · simp -implicitDefEqProofs [bodyR, Try.f3, argTm, h1, h2, h3, h4, hs]
  | true =>
    obtain ⟨b, hb, hok, hA⟩ := bt_of_may hm
    obtain ⟨mk, hmk, hbs, F⟩ := A4_facts hA
    obtain ⟨N4, h4⟩ := next_yes b F.all F.bud
    obtain ⟨N5, h5⟩ := joins_ev b F.big
    have hbe : b.enc = t.enc := by rw [hb]; rfl
    have hlen := eachS_joins b
    refine ⟨N1 + N2 + N3 + N4 + N5 + 1, fun n hn => ?_⟩
    obtain ⟨m, rfl⟩ : ∃ m, n = m + 1 := ⟨n - 1, by omega⟩
    have h1 := h1 m (by omega)
    have h2 := h2 m (by omega)
    have h3 := h3 m (by omega)
    have h4 := h4 m (by omega)
    have h5 := h5 m (by omega)
    rw [pr_run fn3]
    rw [← hlen] at h5
    simp only [hbe, ht, iV, bV, hm] at h1 h2 h3 h4 h5 ⊢
    by_cases hs : sizeS t 100 > 100
    · by_cases he : eachS b = [] <;> simp -implicitDefEqProofs [bodyR, Try.f3, argTm, h1, h2, h3, h4, h5, hs, he]
    · simp -implicitDefEqProofs [bodyR, Try.f3, argTm, h1, h2, h3, h4, h5, hs, hd.1, hd.2]

end Go.Ab
