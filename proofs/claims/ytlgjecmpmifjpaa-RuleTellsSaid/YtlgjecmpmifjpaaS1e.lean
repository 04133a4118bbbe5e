/-
  The document's May.
-/
import Derived.Test.YtlgjecmpmifjpaaS1d
set_option linter.unusedVariables false
set_option linter.unusedSimpArgs false
namespace Go.Ab
open Go.Proofs

/-- Is one of those ahead of it the same? The loop's own order. -/
def dupAt (X : List Int) (i : Nat) : Bool := (X.take i).any fun a => decide (X[i]? = some a)

/-- A tree's set, out of its occurrences. -/
def orL : List Int → Nat
  | [] => 0
  | o :: r => 2 ^ o.toNat ||| orL r

theorem leaf4 {o : Int} (h : 0 ≤ o) (h' : o ≤ 3) : o = 0 ∨ o = 1 ∨ o = 2 ∨ o = 3 := by omega

theorem orL_app (x y : List Int) : orL (x ++ y) = orL x ||| orL y := by
  induction x with
  | nil => simp [orL]
  | cons o r ih => simp [orL, ih, Nat.or_assoc]

def in4 (x : List Int) : Prop := ∀ o ∈ x, 0 ≤ o ∧ o ≤ 3

theorem pow_tb {o u : Nat} : Nat.testBit (2 ^ o) u = decide (o = u) := by
  rw [Nat.testBit_two_pow]

theorem orL_tb {x : List Int} (hx : in4 x) (o : Int) (ho : 0 ≤ o) : Nat.testBit (orL x) o.toNat = true ↔ o ∈ x := by
  induction x with
  | nil => simp [orL]
  | cons u r ih =>
    have hr : in4 r := fun v hv => hx v (by simp [hv])
    have hu := hx u (by simp)
    simp only [orL, Nat.testBit_or, pow_tb, Bool.or_eq_true, decide_eq_true_eq, ih hr, List.mem_cons]
    constructor
    · rintro (h | h)
      · left; omega
      · exact .inr h
    · rintro (h | h)
      · left; omega
      · exact .inr h

theorem orL_lt {x : List Int} (hx : in4 x) : orL x < 16 := by
  induction x with
  | nil => simp [orL]
  | cons u r ih =>
    have hu := hx u (by simp)
    refine Nat.or_lt_two_pow (n := 4) ?_ (ih fun v hv => hx v (by simp [hv]))
    rcases leaf4 hu.1 hu.2 with h | h | h | h <;> subst h <;> decide

theorem disj16 : ∀ a : Nat, a < 16 → ∀ b : Nat, b < 16 → ((a &&& b == 0) = true ↔ ∀ u : Nat, u < 4 → ¬ (a.testBit u = true ∧ b.testBit u = true)) := by decide +kernel

theorem disj_iff {x y : List Int} (hx : in4 x) (hy : in4 y) : (orL x &&& orL y == 0) = true ↔ ∀ o ∈ x, ¬ o ∈ y := by
  rw [disj16 _ (orL_lt hx) _ (orL_lt hy)]
  constructor
  · intro h o h1 h2
    have ho := hx o h1
    exact h o.toNat (by omega) ⟨(orL_tb hx o ho.1).2 h1, (orL_tb hy o ho.1).2 h2⟩
  · rintro h u hu ⟨h1, h2⟩
    have e : ((u : Int)).toNat = u := by omega
    have a1 := (orL_tb hx (u : Int) (by omega)).1 (by rw [e]; exact h1)
    have a2 := (orL_tb hy (u : Int) (by omega)).1 (by rw [e]; exact h2)
    exact h _ a1 a2

/-- May, by bits, is May, by occurrences. -/
theorem may_same : ∀ (d : Nat) (t : Tr), ((setS d t).2 = true ↔ (leavesS d t).2 = true ∧ (leavesS d t).1.Nodup) ∧ ((leavesS d t).2 = true → in4 (leavesS d t).1 ∧ (setS d t).1 = orL (leavesS d t).1)
  | 0, t => by simp [setS, leavesS]
  | d + 1, .mk o [] => by
    refine ⟨?_, fun h => ?_⟩
    · simp only [setS, leavesS, Bool.and_eq_true, decide_eq_true_eq, List.nodup_cons, List.not_mem_nil, not_false_eq_true, List.nodup_nil, and_self, and_true]
      omega
    · simp only [leavesS, Bool.and_eq_true, decide_eq_true_eq] at h
      refine ⟨fun v hv => by simp [leavesS] at hv; omega, ?_⟩
      rcases leaf4 h.1 h.2 with e | e | e | e <;> subst e <;> rfl
  | d + 1, .mk o [a] => by simp [setS, leavesS]
  | d + 1, .mk o (a :: b :: c :: r) => by simp [setS, leavesS]
  | d + 1, .mk o [a, b] => by
    by_cases ho : o = 0
    · obtain ⟨a1, a2⟩ := may_same d a
      obtain ⟨b1, b2⟩ := may_same d b
      simp only [setS, leavesS, ho, if_true, Bool.and_eq_true, List.nodup_append]
      refine ⟨?_, fun h => ?_⟩
      · constructor
        · rintro ⟨⟨h1, h2⟩, h3⟩
          obtain ⟨p1, p2⟩ := a1.1 h1
          obtain ⟨q1, q2⟩ := b1.1 h2
          obtain ⟨i1, i2⟩ := a2 p1
          obtain ⟨j1, j2⟩ := b2 q1
          rw [i2, j2, disj_iff i1 j1] at h3
          exact ⟨⟨p1, q1⟩, p2, q2, fun u hu v hv e => h3 u hu (e ▸ hv)⟩
        · rintro ⟨⟨p1, q1⟩, p2, q2, h3⟩
          obtain ⟨i1, i2⟩ := a2 p1
          obtain ⟨j1, j2⟩ := b2 q1
          refine ⟨⟨a1.2 ⟨p1, p2⟩, b1.2 ⟨q1, q2⟩⟩, ?_⟩
          rw [i2, j2, disj_iff i1 j1]
          exact fun u hu hv => h3 u hu u hv rfl
      · obtain ⟨i1, i2⟩ := a2 h.1
        obtain ⟨j1, j2⟩ := b2 h.2
        refine ⟨fun v hv => ?_, by rw [i2, j2, orL_app]⟩
        rcases List.mem_append.1 hv with h | h
        · exact i1 v h
        · exact j1 v h
    · simp [setS, leavesS, ho]

end Go.Ab
