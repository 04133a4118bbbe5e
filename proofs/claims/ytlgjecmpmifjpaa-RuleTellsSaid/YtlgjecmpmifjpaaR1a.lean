/-
  Trees, as values; what the functions on trees do: first ones.
-/
import Derived.Test.YtlgjecmpmifjpaaAbX
import Derived.Test.YtlgjecmpmifjpaaAbW
import Derived.IntWalk
set_option linter.unusedVariables false
set_option linter.unusedSimpArgs false
namespace Go.Ab
open Go.Proofs

/-- From some number of rounds on a function answers so. -/
def Ev (f : FuncId) (ps : List PV) (r : AV) : Prop := ∃ N, ∀ n, N ≤ n → prA TP HT n f ps = some r

inductive Tr where
  | mk (occ : Int) (l : List Tr)

def iV (n : Int) : PV := .val (.int .i64 n)
def bV (b : Bool) : PV := .val (.bool b)

mutual
def Tr.enc : Tr → PV
  | .mk o l => .agg [iV o, .list (encL l)]
def encL : List Tr → List PV
  | [] => []
  | t :: r => t.enc :: encL r
end
theorem encL_map : ∀ l, encL l = l.map Tr.enc
  | [] => by simp [encL]
  | t :: r => by simp [encL, encL_map r]
theorem encL_len (l : List Tr) : (encL l).length = l.length := by rw [encL_map]; simp

/-- A tree's set, so deep at most. -/
def setS : Nat → Tr → Nat × Bool
  | 0, _ => (0, false)
  | d + 1, .mk o l => match l with
    | [] => (2 ^ (o.tmod 4).toNat, decide (0 ≤ o) && decide (o < 4))
    | [a, b] => if o = 0 then ((setS d a).1 ||| (setS d b).1, (setS d a).2 && (setS d b).2 && ((setS d a).1 &&& (setS d b).1 == 0)) else (0, false)
    | _ => (0, false)

theorem tmod4 (o : Int) : (o.tmod 4 = -3 ∨ o.tmod 4 = -2 ∨ o.tmod 4 = -1) ∨ o.tmod 4 = 0 ∨ o.tmod 4 = 1 ∨ o.tmod 4 = 2 ∨ o.tmod 4 = 3 := by
  have h1 := Int.lt_tmod_of_pos o (b := 4) (by decide)
  have h2 := Int.tmod_lt_of_pos o (b := 4) (by decide)
  omega

theorem setS_lt : ∀ (d : Nat) (t : Tr), (setS d t).1 < 16
  | 0, t => by simp [setS]
  | d + 1, .mk o l => by
    unfold setS
    split
    · rcases tmod4 o with (h | h | h) | h | h | h | h <;> simp [h]
    · rename_i a b
      split
      · exact Nat.or_lt_two_pow (n := 4) (setS_lt d a) (setS_lt d b)
      · decide
    · decide

theorem or16 : ∀ x : Nat, x < 16 → ∀ y : Nat, y < 16 → IntKind.i64.wrap ((x % 2 ^ IntKind.i64.bits ||| y % 2 ^ IntKind.i64.bits : Nat) : Int) = ((x ||| y : Nat) : Int) := by decide +kernel
theorem and16 : ∀ x : Nat, x < 16 → ∀ y : Nat, y < 16 → IntKind.i64.wrap ((x % 2 ^ IntKind.i64.bits &&& y % 2 ^ IntKind.i64.bits : Nat) : Int) = ((x &&& y : Nat) : Int) := by decide +kernel

theorem wrap_small (n : Int) (h1 : -9223372036854775808 ≤ n) (h2 : n ≤ 9223372036854775807) : IntKind.i64.wrap n = n := IntWalk.i64_in n ⟨h1, h2⟩

theorem cast_beq0 (n : Nat) : (((n : Nat) : Int) == 0) = (n == 0) := by
  rw [Bool.eq_iff_iff]; simp
theorem wrap_pred (d : Nat) (hd : d ≤ 10) : IntKind.i64.wrap ((d : Int) + 1 - 1) = d := by rw [wrap_small _ (by omega) (by omega)]; omega

@[simp] theorem w1 : IntKind.i64.wrap 1 = 1 := by decide
@[simp] theorem w2 : IntKind.i64.wrap 2 = 2 := by decide
@[simp] theorem w4 : IntKind.i64.wrap 4 = 4 := by decide
@[simp] theorem w8 : IntKind.i64.wrap 8 = 8 := by decide

set_option maxHeartbeats 1000000 in
theorem set_ev (d : Nat) (hd : d ≤ 10) : ∀ t : Tr, Ev 28 [t.enc, iV d] (.tup [.p (iV (setS d t).1), .p (bV (setS d t).2)]) := by
  induction d with
  | zero =>
    intro t
    refine ⟨1, fun n hn => ?_⟩
    obtain ⟨m, rfl⟩ : ∃ m, n = m + 1 := ⟨n - 1, by omega⟩
    rw [pr_run fn28]
    obtain ⟨o, l⟩ := t
    simp -implicitDefEqProofs [bodyR, Try.f28, argTm, Tr.enc, iV, bV, setS]
  | succ d ih =>
    intro t
    obtain ⟨o, l⟩ := t
    have hd0 : ¬ ((d : Int) + 1 = 0) := by omega
    have hd1 : (((d : Int) + 1) == 0) = false := by simpa using hd0
    match l with
    | [] =>
      refine ⟨1, fun n hn => ?_⟩
      obtain ⟨m, rfl⟩ : ∃ m, n = m + 1 := ⟨n - 1, by omega⟩
      rw [pr_run fn28]
      rcases tmod4 o with (h | h | h) | h | h | h | h <;> by_cases h0 : 0 ≤ o <;> by_cases h4 : o < 4 <;>
        simp -implicitDefEqProofs [bodyR, Try.f28, argTm, Tr.enc, encL, iV, bV, setS, hd0, hd1, h0, h4, h, IntKind.bits]
    | [a] =>
      refine ⟨1, fun n hn => ?_⟩
      obtain ⟨m, rfl⟩ : ∃ m, n = m + 1 := ⟨n - 1, by omega⟩
      rw [pr_run fn28]
      simp -implicitDefEqProofs [bodyR, Try.f28, argTm, Tr.enc, encL, iV, bV, setS, hd0, hd1]
    | a :: b :: c :: r =>
      refine ⟨1, fun n hn => ?_⟩
      obtain ⟨m, rfl⟩ : ∃ m, n = m + 1 := ⟨n - 1, by omega⟩
      rw [pr_run fn28]
      have h1 : ¬ ((r.length : Int) + 1 + 1 + 1 = 0) := by omega
      have h2 : ¬ ((r.length : Int) + 1 + 1 + 1 = 2) := by omega
      simp -implicitDefEqProofs [bodyR, Try.f28, argTm, Tr.enc, encL, encL_len, iV, bV, setS, hd0, hd1, h1, h2]
    | [a, b] =>
      obtain ⟨N1, h1⟩ := ih (by omega) a
      obtain ⟨N2, h2⟩ := ih (by omega) b
      refine ⟨N1 + N2 + 1, fun n hn => ?_⟩
      obtain ⟨m, rfl⟩ : ∃ m, n = m + 1 := ⟨n - 1, by omega⟩
      have h1 := h1 m (by omega)
      have h2 := h2 m (by omega)
      have hw : IntKind.i64.wrap (d : Int) = d := wrap_small _ (by omega) (by omega)
      have e1 := or16 _ (setS_lt d a) _ (setS_lt d b)
      have e2 := and16 _ (setS_lt d a) _ (setS_lt d b)
      obtain ⟨oa, la⟩ := a
      obtain ⟨ob, lb⟩ := b
      simp only [iV, bV, Tr.enc] at h1 h2
      rw [pr_run fn28]
      by_cases ho : o = 0
      · simp -implicitDefEqProofs [bodyR, Try.f28, argTm, Tr.enc, encL, iV, bV, setS, hd0, hd1, ho, hw, h1, h2, e1, e2]
        cases (setS d (.mk oa la)).2 <;> cases (setS d (.mk ob lb)).2 <;> simp [e1, e2, cast_beq0]
      · simp -implicitDefEqProofs [bodyR, Try.f28, argTm, Tr.enc, encL, iV, bV, setS, hd0, hd1, ho]

end Go.Ab
