/-
  When trees are the same.
-/
import Derived.Test.YtlgjecmpmifjpaaR1b
set_option linter.unusedVariables false
set_option linter.unusedSimpArgs false
namespace Go.Ab
open Go.Proofs

def fnV (f : FuncId) : PV := .val (.func (.func f) #[] #[])

def kids : BT → List PV
  | .lf _ => []
  | .jn a b => [a.enc, b.enc]

set_option maxHeartbeats 2000000 in
theorem same_ev : ∀ (a b : BT), Ev 23 [a.enc, b.enc] (.p (bV (decide (a = b))))
  | .lf i, .lf j => by
    refine ⟨9, fun n hn => ?_⟩
    obtain ⟨m, rfl⟩ : ∃ m, n = m + 9 := ⟨n - 9, by omega⟩
    have h : prA TP HT (m + 8) 35 [.list [], .list [], fnV 23] = some (.p (bV true)) := by
      rw [pr_run fn35]
      simp -implicitDefEqProofs [bodyR, Try.f35, argTm, bV, fnV]
    simp only [bV, fnV] at h
    rw [pr_run fn23]
    by_cases hij : i = j
    · subst hij; simp -implicitDefEqProofs [bodyR, Try.f23, argTm, enc_lf, bV, h]
    · have : ¬ ((i : Int) = j) := by omega
      simp -implicitDefEqProofs [bodyR, Try.f23, argTm, enc_lf, bV, h, hij, this]
  | .lf i, .jn c d => by
    refine ⟨9, fun n hn => ?_⟩
    obtain ⟨m, rfl⟩ : ∃ m, n = m + 9 := ⟨n - 9, by omega⟩
    have h : prA TP HT (m + 8) 35 [.list [], .list [c.enc, d.enc], fnV 23] = some (.p (bV false)) := by
      rw [pr_run fn35]
      simp -implicitDefEqProofs [bodyR, Try.f35, argTm, bV, fnV]
    simp only [bV, fnV] at h
    rw [pr_run fn23]
    by_cases hij : i = 0
    · subst hij; simp -implicitDefEqProofs [bodyR, Try.f23, argTm, enc_lf, enc_jn, bV, h]
    · have h3 : ¬ ((i : Int) = 0) := by omega
      simp -implicitDefEqProofs [bodyR, Try.f23, argTm, enc_lf, enc_jn, bV, h, hij, h3]
  | .jn c d, .lf i => by
    refine ⟨9, fun n hn => ?_⟩
    obtain ⟨m, rfl⟩ : ∃ m, n = m + 9 := ⟨n - 9, by omega⟩
    have h : prA TP HT (m + 8) 35 [.list [c.enc, d.enc], .list [], fnV 23] = some (.p (bV false)) := by
      rw [pr_run fn35]
      simp -implicitDefEqProofs [bodyR, Try.f35, argTm, bV, fnV]
    simp only [bV, fnV] at h
    rw [pr_run fn23]
    by_cases hij : i = 0
    · subst hij; simp -implicitDefEqProofs [bodyR, Try.f23, argTm, enc_lf, enc_jn, bV, h]
    · have h3 : ¬ ((0 : Int) = i) := by omega
      have h4 : ((0 : Int) == i) = false := by simpa using h3
      simp -implicitDefEqProofs [bodyR, Try.f23, argTm, enc_lf, enc_jn, bV, h, hij, h3, h4]
  | .jn a b, .jn c d => by
    obtain ⟨N1, h1⟩ := same_ev a c
    obtain ⟨N2, h2⟩ := same_ev b d
    refine ⟨N1 + N2 + 9, fun n hn => ?_⟩
    obtain ⟨m, rfl⟩ : ∃ m, n = m + 9 := ⟨n - 9, by omega⟩
    have h1 := h1 (m + 7) (by omega)
    have h2 := h2 (m + 7) (by omega)
    obtain ⟨oa, la, ha⟩ := enc_form a
    obtain ⟨ob, lb, hb⟩ := enc_form b
    obtain ⟨oc, lc, hc⟩ := enc_form c
    obtain ⟨od, ld, hd⟩ := enc_form d
    have h : prA TP HT (m + 8) 35 [.list [a.enc, b.enc], .list [c.enc, d.enc], fnV 23] = some (.p (bV (decide (a = c) && decide (b = d)))) := by
      rw [pr_run fn35]
      simp only [bV, fnV, ha, hb, hc, hd] at h1 h2 ⊢
      by_cases e1 : a = c
      · by_cases e2 : b = d
        · simp only [e1, e2, decide_true] at h1 h2
          simp -implicitDefEqProofs [bodyR, Try.f35, argTm, bV, h1, h2, e1, e2]
        · simp only [e1, e2, decide_true, decide_false] at h1 h2
          simp -implicitDefEqProofs [bodyR, Try.f35, argTm, bV, h1, h2, e1, e2]
      · simp only [e1, decide_false] at h1
        simp -implicitDefEqProofs [bodyR, Try.f35, argTm, bV, h1, h2, e1]
    simp only [bV, fnV, ha, hb, hc, hd] at h
    rw [pr_run fn23]
    simp only [enc_jn, ha, hb, hc, hd]
    simp -implicitDefEqProofs [bodyR, Try.f23, argTm, bV, h]

end Go.Ab
