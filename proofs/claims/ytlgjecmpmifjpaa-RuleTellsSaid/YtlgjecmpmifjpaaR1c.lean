/-
  Rules, by what may be; texts.
-/
import Derived.Test.YtlgjecmpmifjpaaR1b
set_option linter.unusedVariables false
set_option linter.unusedSimpArgs false
namespace Go.Ab
open Go.Proofs

def zT : BT := .lf 0
theorem encz : zT.enc = .agg [.val (.int .i64 0), .list []] := by simp [zT, enc_lf]
def ruV (f : FuncId) : PV := .val (.func (.func f) #[] #[])

theorem by_no (t : Tr) (f : PV) (h : mayT t = false) (hf : ∃ g, f = ruV g) : Ev 30 [t.enc, f] (.tup [.p zT.enc, .p (bV false)]) := by
  obtain ⟨g, rfl⟩ := hf
  obtain ⟨N, h1⟩ := may_ev t
  obtain ⟨o, l, ht⟩ := tr_form t
  refine ⟨N + 1, fun n hn => ?_⟩
  obtain ⟨m, rfl⟩ : ∃ m, n = m + 1 := ⟨n - 1, by omega⟩
  have h1 := h1 m (by omega)
  rw [pr_run fn30]
  simp only [ht, h, bV, ruV] at h1 ⊢
  simp -implicitDefEqProofs [bodyR, Try.f30, argTm, h1, encz]

theorem by_yes (b x : BT) (is : Bool) (f : FuncId) (h : b.ok = true) (hs : f ≠ 29) (hr : Ev f [b.enc] (.tup [.p x.enc, .p (bV is)])) : Ev 30 [b.enc, ruV f] (.tup [.p x.enc, .p (bV is)]) := by
  obtain ⟨N, h1⟩ := may_ev b.tr
  obtain ⟨N2, h2⟩ := hr
  obtain ⟨o, l, ht⟩ := enc_form b
  obtain ⟨ox, lx, hx⟩ := enc_form x
  refine ⟨N + N2 + 1, fun n hn => ?_⟩
  obtain ⟨m, rfl⟩ : ∃ m, n = m + 1 := ⟨n - 1, by omega⟩
  have h1 := h1 m (by omega)
  have h2 := h2 m (by omega)
  have hb : b.tr.enc = b.enc := rfl
  have hm : mayT b.tr = true := h
  have hs' : (f == 29) = false := by simpa using hs
  rw [pr_run fn30]
  simp only [hb, ht, hx, hm, bV, ruV] at h1 h2 ⊢
  simp -implicitDefEqProofs [bodyR, Try.f30, argTm, h1, h2, hs']

def byS (r : BT → BT × Bool) (b : BT) : BT × Bool := if b.ok then r b else (zT, false)

theorem Turn_no (t : Tr) (h : mayT t = false) : Ev 13 [t.enc] (.tup [.p zT.enc, .p (bV false)]) := by
  obtain ⟨N, h1⟩ := by_no t (ruV 31) h ⟨31, rfl⟩
  obtain ⟨o, l, ht⟩ := tr_form t
  refine ⟨N + 1, fun n hn => ?_⟩
  obtain ⟨m, rfl⟩ : ∃ m, n = m + 1 := ⟨n - 1, by omega⟩
  have h1 := h1 m (by omega)
  rw [pr_run fn13]
  simp only [ht, encz, bV, ruV] at h1 ⊢
  simp -implicitDefEqProofs [bodyR, Try.f13, argTm, h1]

theorem Move_no (t : Tr) (h : mayT t = false) : Ev 15 [t.enc] (.tup [.p zT.enc, .p (bV false)]) := by
  obtain ⟨N, h1⟩ := by_no t (ruV 34) h ⟨34, rfl⟩
  obtain ⟨o, l, ht⟩ := tr_form t
  refine ⟨N + 1, fun n hn => ?_⟩
  obtain ⟨m, rfl⟩ : ∃ m, n = m + 1 := ⟨n - 1, by omega⟩
  have h1 := h1 m (by omega)
  rw [pr_run fn15]
  simp only [ht, encz, bV, ruV] at h1 ⊢
  simp -implicitDefEqProofs [bodyR, Try.f15, argTm, h1]

theorem Turn_yes (b : BT) (h : b.ok = true) : Ev 13 [b.enc] (.tup [.p (turnS b).1.enc, .p (bV (turnS b).2)]) := by
  obtain ⟨N, h1⟩ := by_yes b _ _ 31 h (by decide) (turn_ev b)
  obtain ⟨o, l, ht⟩ := enc_form b
  obtain ⟨ox, lx, hx⟩ := enc_form (turnS b).1
  refine ⟨N + 1, fun n hn => ?_⟩
  obtain ⟨m, rfl⟩ : ∃ m, n = m + 1 := ⟨n - 1, by omega⟩
  have h1 := h1 m (by omega)
  rw [pr_run fn13]
  simp only [ht, hx, bV, ruV] at h1 ⊢
  simp -implicitDefEqProofs [bodyR, Try.f13, argTm, h1]

theorem Move_yes (b : BT) (h : b.ok = true) : Ev 15 [b.enc] (.tup [.p (moveS b).1.enc, .p (bV (moveS b).2)]) := by
  obtain ⟨N, h1⟩ := by_yes b _ _ 34 h (by decide) (move_ev b)
  obtain ⟨o, l, ht⟩ := enc_form b
  obtain ⟨ox, lx, hx⟩ := enc_form (moveS b).1
  refine ⟨N + 1, fun n hn => ?_⟩
  obtain ⟨m, rfl⟩ : ∃ m, n = m + 1 := ⟨n - 1, by omega⟩
  have h1 := h1 m (by omega)
  rw [pr_run fn15]
  simp only [ht, hx, bV, ruV] at h1 ⊢
  simp -implicitDefEqProofs [bodyR, Try.f15, argTm, h1]

/-! ### Texts -/
def textL : BT → List UInt8
  | .lf i => [(48 + i).toUInt8]
  | .jn a b => [40] ++ textL a ++ textL b ++ [41]
def BT.lt4 : BT → Bool
  | .lf i => decide (i < 4)
  | .jn a b => a.lt4 && b.lt4
def BT.big : BT → Nat
  | .lf i => 1
  | .jn a b => a.big + b.big + 2
theorem textL_len : ∀ b : BT, (textL b).length = b.big
  | .lf i => rfl
  | .jn a b => by simp [textL, BT.big, textL_len a, textL_len b]; omega
def textS (b : BT) : ByteArray := ⟨(textL b).toArray⟩

theorem text_ev : ∀ (b : BT), b.lt4 = true → b.big ≤ 1000 → Ev 38 [b.enc] (.p (.val (.string (textS b))))
  | .lf i, h, _ => by
    refine ⟨1, fun n hn => ?_⟩
    obtain ⟨m, rfl⟩ : ∃ m, n = m + 1 := ⟨n - 1, by omega⟩
    simp only [BT.lt4, decide_eq_true_eq] at h
    rw [pr_run fn38]
    match i, h with
    | 0, _ => simp -implicitDefEqProofs [bodyR, Try.f38, argTm, enc_lf]; decide +kernel
    | 1, _ => simp -implicitDefEqProofs [bodyR, Try.f38, argTm, enc_lf]; decide +kernel
    | 2, _ => simp -implicitDefEqProofs [bodyR, Try.f38, argTm, enc_lf]; decide +kernel
    | 3, _ => simp -implicitDefEqProofs [bodyR, Try.f38, argTm, enc_lf]; decide +kernel
  | .jn a b, h, hb => by
    simp only [BT.lt4, Bool.and_eq_true] at h
    simp only [BT.big] at hb
    obtain ⟨N1, h1⟩ := text_ev a h.1 (by omega)
    obtain ⟨N2, h2⟩ := text_ev b h.2 (by omega)
    obtain ⟨oa, la, ha⟩ := enc_form a
    obtain ⟨ob, lb, hb'⟩ := enc_form b
    have hd := dr38
    simp only [regsF, Try.f38, regs, List.map, List.nil_append, List.append_nil, List.cons_append, List.cons.injEq, Prod.mk.injEq, and_true] at hd
    refine ⟨N1 + N2 + 1, fun n hn => ?_⟩
    obtain ⟨m, rfl⟩ : ∃ m, n = m + 1 := ⟨n - 1, by omega⟩
    have h1 := h1 m (by omega)
    have h2 := h2 m (by omega)
    have z1 : (ByteArray.mk #[40]).size = 1 := rfl
    have z2 : (ByteArray.mk #[41]).size = 1 := rfl
    have s1 : (textS a).size = a.big := by simp [textS, ByteArray.size, textL_len]
    have s2 : (textS b).size = b.big := by simp [textS, ByteArray.size, textL_len]
    have c1 : (1 + a.big) ≤ 1099511627776 := by omega
    have c2 : (1 + a.big + b.big) ≤ 1099511627776 := by omega
    have c3 : (1 + a.big + b.big + 1) ≤ 1099511627776 := by omega
    have hcat : (ByteArray.mk #[40]) ++ textS a ++ textS b ++ (ByteArray.mk #[41]) = textS (.jn a b) := by
      apply ByteArray.ext
      simp [textS, textL]
    rw [pr_run fn38]
    simp only [ha, hb', enc_jn] at h1 h2 ⊢
    simp -implicitDefEqProofs [bodyR, Try.f38, argTm, h1, h2, z1, z2, s1, s2, c1, c2, c3, hd.1, hd.2]
    exact hcat

end Go.Ab
