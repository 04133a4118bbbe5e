/-
  All trees of a set, as a call.
-/
import Derived.Test.YtlgjecmpmifjpaaR1v
set_option linter.unusedVariables false
set_option linter.unusedSimpArgs false
namespace Go.Ab
open Go.Proofs

def leafs (s : Nat) : List BT := if s = 1 then [.lf 0] else if s = 2 then [.lf 1] else if s = 4 then [.lf 2] else if s = 8 then [.lf 3] else []
def allN : Nat → Nat → List BT
  | 0, _ => []
  | k + 1, s => outA (allN k) s (s - 1) 1 (leafs s)
def allT (s : Nat) : List BT := allN 16 s

theorem allT_eq_ok : ([1, 2, 3, 4, 5, 6, 7, 8, 9, 10, 11, 12, 13, 14, 15].all fun s => decide (allT s = outA allT s (s - 1) 1 (leafs s)) && (decide ((allT s).length ≤ 50) || decide (s = 15))) = true := by decide +kernel
theorem allT_set_ok : (masks.all fun m => decide ((allT m).length = (SetL m).length) && (allT m).all fun x => memB x (SetL m)) = true := by decide +kernel

theorem in15 {s : Nat} (h1 : 1 ≤ s) (h2 : s ≤ 15) : s ∈ [1, 2, 3, 4, 5, 6, 7, 8, 9, 10, 11, 12, 13, 14, 15] := by
  simp only [List.mem_cons, List.not_mem_nil, or_false]; omega

theorem allT_eq {s : Nat} (h1 : 1 ≤ s) (h2 : s ≤ 15) : allT s = outA allT s (s - 1) 1 (leafs s) := by
  have := List.all_eq_true.1 allT_eq_ok s (in15 h1 h2)
  simp only [Bool.and_eq_true, decide_eq_true_eq] at this
  exact this.1
theorem allT_len {s : Nat} (h1 : 1 ≤ s) (h2 : s < 15) : (allT s).length ≤ 50 := by
  have := List.all_eq_true.1 allT_eq_ok s (in15 h1 (by omega))
  simp only [Bool.and_eq_true, Bool.or_eq_true, decide_eq_true_eq] at this
  omega
theorem allT_set {m : Nat} (hm : m ∈ masks) : (allT m).length = (SetL m).length ∧ ∀ x ∈ allT m, x ∈ SetL m := by
  have := List.all_eq_true.1 allT_set_ok m hm
  simp only [Bool.and_eq_true, decide_eq_true_eq, List.all_eq_true] at this
  exact ⟨this.1, fun x hx => memB_iff.1 (this.2 x hx)⟩

theorem pcs25 : pcs Try.f25 = [pc Try.f25 0, pc Try.f25 1, pc Try.f25 2, pc Try.f25 3, pc Try.f25 4, pc Try.f25 5, pc Try.f25 6, pc Try.f25 7, pc Try.f25 8, pc Try.f25 9] := by rfl
theorem pc7_25 : pc Try.f25 7 = .block 2 (.loop cL2) := by rfl

theorem enc_3 : (BT.lf 3).enc = .agg [.val (.int .i64 3), .list []] := by simp [enc_lf]

set_option maxHeartbeats 8000000 in
theorem all_start (m : Nat) (s : Nat) (h1 : 1 ≤ s) (h2 : s ≤ 15) :
    ∃ tm1, runS (mkE (m + 9) 25 false) 64 [pc Try.f25 0, pc Try.f25 1, pc Try.f25 2, pc Try.f25 3, pc Try.f25 4, pc Try.f25 5, pc Try.f25 6] ⟨argTm [.p (iV s)], []⟩ = some (.normal, ⟨tm1, S25 (leafs s)⟩) ∧ FrA tm1 s 1 (leafs s) := by
  have l0 := leaf_at (m + 8) 0
  have l1 := leaf_at (m + 8) 1
  have l2 := leaf_at (m + 8) 2
  have l3 := leaf_at (m + 8) 3
  simp only [iV, enc_0, enc_1, enc_2, enc_3] at l0 l1 l2 l3
  simp at l0 l1 l2 l3
  have bb : IntKind.i64.bits = 64 := rfl
  have n0 : min 0 64 = 0 := by decide
  have n1 : min 1 64 = 1 := by decide
  have n2 : min 2 64 = 2 := by decide
  have n3 : min 3 64 = 3 := by decide
  have a1 : ¬ ((s : Int) < 1) := by omega
  have a2 : ¬ (16 ≤ (s : Int)) := by omega
  have a3 : ¬ (s < 1) := by omega
  have a4 : ¬ (16 ≤ s) := by omega
  have a5 : ¬ s = 0 := by omega
  by_cases e1 : s = 1
  · subst e1
    simp -implicitDefEqProofs [runS, pc, pcs, seqsC, Try.f25, argTm, iV, bb, n0, n1, n2, n3, S25, FrA, leafs, l0, l1, l2, l3, arrT, enc_0, enc_1, enc_2, enc_3]
  · by_cases e2 : s = 2
    · subst e2
      simp -implicitDefEqProofs [runS, pc, pcs, seqsC, Try.f25, argTm, iV, bb, n0, n1, n2, n3, S25, FrA, leafs, l0, l1, l2, l3, arrT, enc_0, enc_1, enc_2, enc_3]
    · by_cases e4 : s = 4
      · subst e4
        simp -implicitDefEqProofs [runS, pc, pcs, seqsC, Try.f25, argTm, iV, bb, n0, n1, n2, n3, S25, FrA, leafs, l0, l1, l2, l3, arrT, enc_0, enc_1, enc_2, enc_3]
      · by_cases e8 : s = 8
        · subst e8
          simp -implicitDefEqProofs [runS, pc, pcs, seqsC, Try.f25, argTm, iV, bb, n0, n1, n2, n3, S25, FrA, leafs, l0, l1, l2, l3, arrT, enc_0, enc_1, enc_2, enc_3]
        · have q1 : ¬ ((s : Int) = 1) := by omega
          have q2 : ¬ ((s : Int) = 2) := by omega
          have q4 : ¬ ((s : Int) = 4) := by omega
          have q8 : ¬ ((s : Int) = 8) := by omega
          simp -implicitDefEqProofs [runS, pc, pcs, seqsC, Try.f25, argTm, iV, bb, n0, n1, n2, n3, S25, FrA, leafs, a1, a2, a3, a4, a5, e1, e2, e4, e8, q1, q2, q4, q8, arrT]

end Go.Ab
