/-
  Trees of two, as values; what the small functions on them do.
-/
import Derived.Test.YtlgjecmpmifjpaaR1a
set_option linter.unusedVariables false
set_option linter.unusedSimpArgs false
namespace Go.Ab
open Go.Proofs

inductive BT where
  | lf (i : Nat)
  | jn (a b : BT)
deriving DecidableEq

def BT.tr : BT → Tr
  | .lf i => .mk i []
  | .jn a b => .mk 0 [a.tr, b.tr]
def BT.enc (b : BT) : PV := b.tr.enc

theorem enc_lf (i : Nat) : (BT.lf i).enc = .agg [.val (.int .i64 i), .list []] := by simp [BT.enc, BT.tr, Tr.enc, encL, iV]
theorem enc_jn (a b : BT) : (BT.jn a b).enc = .agg [.val (.int .i64 0), .list [a.enc, b.enc]] := by simp [BT.enc, BT.tr, Tr.enc, encL, iV]
theorem enc_form (b : BT) : ∃ (o : Int) (l : List PV), b.enc = .agg [.val (.int .i64 o), .list l] := by
  cases b with
  | lf i => exact ⟨_, _, enc_lf i⟩
  | jn a b => exact ⟨_, _, enc_jn a b⟩
theorem tr_form (t : Tr) : ∃ (o : Int) (l : List PV), t.enc = .agg [.val (.int .i64 o), .list l] := by
  obtain ⟨o, l⟩ := t
  exact ⟨o, encL l, by simp [Tr.enc, iV]⟩

def mayT (t : Tr) : Bool := (setS 4 t).2
def setT (t : Tr) : Nat := if (setS 4 t).2 then (setS 4 t).1 else 0
def BT.ok (b : BT) : Bool := mayT b.tr

theorem may_ev (t : Tr) : Ev 10 [t.enc] (.p (bV (mayT t))) := by
  obtain ⟨N, h⟩ := set_ev 4 (by omega) t
  obtain ⟨o, l, ht⟩ := tr_form t
  refine ⟨N + 1, fun n hn => ?_⟩
  obtain ⟨m, rfl⟩ : ∃ m, n = m + 1 := ⟨n - 1, by omega⟩
  have h := h m (by omega)
  rw [pr_run fn10]
  simp only [ht, iV, bV] at h ⊢
  simp at h
  simp -implicitDefEqProofs [bodyR, Try.f10, argTm, h, mayT]

theorem setT_ev (t : Tr) : Ev 24 [t.enc] (.p (iV (setT t))) := by
  obtain ⟨N, h⟩ := set_ev 4 (by omega) t
  obtain ⟨o, l, ht⟩ := tr_form t
  refine ⟨N + 1, fun n hn => ?_⟩
  obtain ⟨m, rfl⟩ : ∃ m, n = m + 1 := ⟨n - 1, by omega⟩
  have h := h m (by omega)
  rw [pr_run fn24]
  simp only [ht, iV, bV] at h ⊢
  simp at h
  cases hs : (setS 4 t).2 <;> simp [hs] at h <;> simp -implicitDefEqProofs [bodyR, Try.f24, argTm, h, setT, hs]

theorem leaf_ev (i : Nat) : Ev 36 [iV i] (.p (BT.lf i).enc) := by
  refine ⟨1, fun n hn => ?_⟩
  obtain ⟨m, rfl⟩ : ∃ m, n = m + 1 := ⟨n - 1, by omega⟩
  rw [pr_run fn36]
  simp -implicitDefEqProofs [bodyR, Try.f36, argTm, iV, enc_lf]

theorem join_ev (a b : BT) : Ev 37 [a.enc, b.enc] (.p (BT.jn a b).enc) := by
  refine ⟨1, fun n hn => ?_⟩
  obtain ⟨m, rfl⟩ : ∃ m, n = m + 1 := ⟨n - 1, by omega⟩
  obtain ⟨oa, la, ha⟩ := enc_form a
  obtain ⟨ob, lb, hb⟩ := enc_form b
  rw [pr_run fn37]
  simp -implicitDefEqProofs [bodyR, Try.f37, argTm, enc_jn, ha, hb]

theorem rjoin_ev (a b : BT) : Ev 33 [a.enc, b.enc] (.p (BT.jn a b).enc) := by
  refine ⟨1, fun n hn => ?_⟩
  obtain ⟨m, rfl⟩ : ∃ m, n = m + 1 := ⟨n - 1, by omega⟩
  obtain ⟨oa, la, ha⟩ := enc_form a
  obtain ⟨ob, lb, hb⟩ := enc_form b
  rw [pr_run fn33]
  simp -implicitDefEqProofs [bodyR, Try.f33, argTm, enc_jn, ha, hb]

def twoS : BT → BT × BT × Bool
  | .lf _ => (.lf 0, .lf 0, false)
  | .jn a b => (a, b, true)

theorem two_ev (t : BT) : Ev 40 [t.enc] (.tup [.p (twoS t).1.enc, .p (twoS t).2.1.enc, .p (bV (twoS t).2.2)]) := by
  refine ⟨1, fun n hn => ?_⟩
  obtain ⟨m, rfl⟩ : ∃ m, n = m + 1 := ⟨n - 1, by omega⟩
  have hd := dr40
  simp only [regsF, Try.f40, regs, List.map, List.nil_append, List.append_nil, List.cons_append, List.cons.injEq, Prod.mk.injEq, and_true] at hd
  rw [pr_run fn40]
  cases t with
  | lf i => simp -implicitDefEqProofs [bodyR, Try.f40, argTm, enc_lf, twoS, bV]
  | jn a b =>
    obtain ⟨oa, la, ha⟩ := enc_form a
    obtain ⟨ob, lb, hb⟩ := enc_form b
    simp -implicitDefEqProofs [bodyR, Try.f40, argTm, enc_jn, twoS, bV, ha, hb, hd.1, hd.2]

def turnS : BT → BT × Bool
  | .lf _ => (.lf 0, false)
  | .jn a b => (.jn b a, true)

theorem turn_ev (t : BT) : Ev 31 [t.enc] (.tup [.p (turnS t).1.enc, .p (bV (turnS t).2)]) := by
  obtain ⟨N1, h1⟩ := two_ev t
  obtain ⟨o, l, ht⟩ := enc_form t
  cases t with
  | lf i =>
    refine ⟨N1 + 1, fun n hn => ?_⟩
    obtain ⟨m, rfl⟩ : ∃ m, n = m + 1 := ⟨n - 1, by omega⟩
    have h1 := h1 m (by omega)
    rw [pr_run fn31]
    simp only [ht, twoS, enc_lf, bV] at h1 ⊢
    simp -implicitDefEqProofs [bodyR, Try.f31, argTm, enc_lf, turnS, bV, h1]
  | jn a b =>
    obtain ⟨N2, h2⟩ := join_ev b a
    refine ⟨N1 + N2 + 1, fun n hn => ?_⟩
    obtain ⟨m, rfl⟩ : ∃ m, n = m + 1 := ⟨n - 1, by omega⟩
    have h1 := h1 m (by omega)
    have h2 := h2 m (by omega)
    obtain ⟨oa, la, ha⟩ := enc_form a
    obtain ⟨ob, lb, hb⟩ := enc_form b
    rw [pr_run fn31]
    simp only [ht, twoS, bV, ha, hb, enc_jn] at h1 h2 ⊢
    simp -implicitDefEqProofs [bodyR, Try.f31, argTm, turnS, bV, h1, h2, enc_jn, ha, hb]

def moveS : BT → BT × Bool
  | .jn (.jn a b) c => (.jn a (.jn b c), true)
  | _ => (.lf 0, false)

theorem move_ev (t : BT) : Ev 34 [t.enc] (.tup [.p (moveS t).1.enc, .p (bV (moveS t).2)]) := by
  have hd := dr34
  simp only [regsF, Try.f34, regs, List.map, List.nil_append, List.append_nil, List.cons_append, List.cons.injEq, Prod.mk.injEq, and_true] at hd
  obtain ⟨N1, h1⟩ := two_ev t
  obtain ⟨N3, h3⟩ := two_ev (twoS t).1
  obtain ⟨o, l, ht⟩ := enc_form t
  match t with
  | .lf i =>
    refine ⟨N1 + N3 + 1, fun n hn => ?_⟩
    obtain ⟨m, rfl⟩ : ∃ m, n = m + 1 := ⟨n - 1, by omega⟩
    have h1 := h1 m (by omega)
    have h3 := h3 m (by omega)
    rw [pr_run fn34]
    simp only [twoS, enc_lf, bV, Int.natCast_zero] at h1 h3 ⊢
    simp -implicitDefEqProofs [bodyR, Try.f34, argTm, enc_lf, moveS, bV, h1, h3]
  | .jn (.lf i) c =>
    refine ⟨N1 + N3 + 1, fun n hn => ?_⟩
    obtain ⟨m, rfl⟩ : ∃ m, n = m + 1 := ⟨n - 1, by omega⟩
    have h1 := h1 m (by omega)
    have h3 := h3 m (by omega)
    obtain ⟨oc, lc, hc⟩ := enc_form c
    rw [pr_run fn34]
    simp only [twoS, enc_lf, enc_jn, bV, hc] at h1 h3 ⊢
    simp -implicitDefEqProofs [bodyR, Try.f34, argTm, enc_lf, moveS, bV, h1, h3]
  | .jn (.jn a b) c =>
    obtain ⟨N2, h2⟩ := join_ev b c
    obtain ⟨N4, h4⟩ := join_ev a (.jn b c)
    refine ⟨N1 + N2 + N3 + N4 + 1, fun n hn => ?_⟩
    obtain ⟨m, rfl⟩ : ∃ m, n = m + 1 := ⟨n - 1, by omega⟩
    have h1 := h1 m (by omega)
    have h2 := h2 m (by omega)
    have h3 := h3 m (by omega)
    have h4 := h4 m (by omega)
    obtain ⟨oa, la, ha⟩ := enc_form a
    obtain ⟨ob, lb, hb⟩ := enc_form b
    obtain ⟨oc, lc, hc⟩ := enc_form c
    rw [pr_run fn34]
    simp only [ht, twoS, bV, ha, hb, hc, enc_jn] at h1 h2 h3 h4 ⊢
    simp -implicitDefEqProofs [bodyR, Try.f34, argTm, moveS, bV, h1, h2, h3, h4, enc_jn, ha, hb, hc, hd.1, hd.2]

end Go.Ab
