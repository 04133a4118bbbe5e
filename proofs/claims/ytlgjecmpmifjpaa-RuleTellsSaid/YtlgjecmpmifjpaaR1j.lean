/-
  The chapter's example; sizes; Joins.
-/
import Derived.Test.YtlgjecmpmifjpaaR1i
set_option linter.unusedVariables false
set_option linter.unusedSimpArgs false
namespace Go.Ab
open Go.Proofs

def ft3 : BT := .jn (.jn (.lf 0) (.lf 1)) (.lf 2)
theorem ft3_in : ft3 ∈ SetL 7 := memB_iff.1 (by decide +kernel)
theorem m7 : 7 ∈ masks := by decide

@[simp] theorem w3 : IntKind.i64.wrap 3 = 3 := by decide

theorem leaf_at (n : Nat) (i : Nat) : prA TP HT (n + 1) 36 [iV i] = some (.p (BT.lf i).enc) := by
  rw [pr_run fn36]
  simp -implicitDefEqProofs [bodyR, Try.f36, argTm, iV, enc_lf]

theorem enc_0 : (BT.lf 0).enc = .agg [.val (.int .i64 0), .list []] := by simp [enc_lf]
theorem enc_1 : (BT.lf 1).enc = .agg [.val (.int .i64 1), .list []] := by simp [enc_lf]
theorem enc_2 : (BT.lf 2).enc = .agg [.val (.int .i64 2), .list []] := by simp [enc_lf]

set_option maxHeartbeats 4000000 in
theorem first3 : Ev 26 [iV 3] (.p ft3.enc) := by
  refine ⟨9, fun n hn => ?_⟩
  obtain ⟨m, rfl⟩ : ∃ m, n = m + 9 := ⟨n - 9, by omega⟩
  have hd := dr26
  simp only [regsF, Try.f26, regs, List.map, List.nil_append, List.append_nil, List.cons_append, List.cons.injEq, Prod.mk.injEq, and_true] at hd
  have l0 := leaf_at (m + 7) 0
  have l1 := leaf_at (m + 7) 1
  have l2 := leaf_at (m + 7) 2
  have j1 := join_at (m + 7) (.lf 0) (.lf 1)
  have j2 := join_at (m + 7) (.jn (.lf 0) (.lf 1)) (.lf 2)
  rw [pr_run fn26]
  simp only [iV, enc_0, enc_1, enc_2, enc_jn, ft3] at l0 l1 l2 j1 j2 ⊢
  simp at l0 l1 l2
  simp -implicitDefEqProofs [bodyR, Try.f26, argTm, l0, l1, l2, j1, j2, hd.1, hd.2]

theorem pcs8 : pcs Try.f8 = [pc Try.f8 0, pc Try.f8 1, pc Try.f8 2, pc Try.f8 3] := by rfl
theorem binT_str (P : Program) (T : TypeId) (a : ByteArray) : binT P .eql T (.string a) (.string a) = some (.bool true) := by simp [binT, binV]

set_option maxHeartbeats 1000000 in
theorem awake_ev : Ev 8 [] (.p (bV true)) := by
  obtain ⟨N1, h1⟩ := first3
  obtain ⟨N2, h2⟩ := next_yes ft3 (facts m7 ft3_in).all (facts m7 ft3_in).bud
  obtain ⟨N3, h3⟩ := close_yes (mem_A4.2 ⟨7, m7, ft3_in⟩)
  obtain ⟨N4, h4⟩ := Text_ev (x := .jn (.lf 2) (.jn (.lf 0) (.lf 1))) (mem_A4.2 ⟨7, m7, memB_iff.1 (by decide +kernel)⟩)
  obtain ⟨N5, h5⟩ := Text_ev (x := .jn (.lf 0) (.jn (.lf 1) (.lf 2))) (mem_A4.2 ⟨7, m7, memB_iff.1 (by decide +kernel)⟩)
  obtain ⟨N6, h6⟩ := Text_ev (x := .jn (.jn (.lf 1) (.lf 0)) (.lf 2)) (mem_A4.2 ⟨7, m7, memB_iff.1 (by decide +kernel)⟩)
  have hlen : (closeS ft3).length = 12 := by rw [close_len m7 ft3_in]; decide +kernel
  have hnext : eachS ft3 = [.jn (.lf 2) (.jn (.lf 0) (.lf 1)), .jn (.lf 0) (.jn (.lf 1) (.lf 2)), .jn (.jn (.lf 1) (.lf 0)) (.lf 2)] := by rfl
  refine ⟨N1 + N2 + N3 + N4 + N5 + N6 + 9, fun n hn => ?_⟩
  obtain ⟨m, rfl⟩ : ∃ m, n = m + 1 := ⟨n - 1, by omega⟩
  have h1 := h1 m (by omega)
  have h2 := h2 m (by omega)
  have h3 := h3 m (by omega)
  have h4 := h4 m (by omega)
  have h5 := h5 m (by omega)
  have h6 := h6 m (by omega)
  rw [hnext] at h2
  generalize hC : closeS ft3 = C at h3 hlen
  have x4 : textS (.jn (.lf 2) (.jn (.lf 0) (.lf 1))) = ⟨#[40, 50, 40, 48, 49, 41, 41]⟩ := by decide +kernel
  have x5 : textS (.jn (.lf 0) (.jn (.lf 1) (.lf 2))) = ⟨#[40, 48, 40, 49, 50, 41, 41]⟩ := by decide +kernel
  have x6 : textS (.jn (.jn (.lf 1) (.lf 0)) (.lf 2)) = ⟨#[40, 40, 49, 48, 41, 50, 41]⟩ := by decide +kernel
  rw [x4] at h4
  rw [x5] at h5
  rw [x6] at h6
  simp only [List.map] at h2
  obtain ⟨o1, l1, e1⟩ := enc_form (.jn (.lf 2) (.jn (.lf 0) (.lf 1)))
  obtain ⟨o2, l2, e2⟩ := enc_form (.jn (.lf 0) (.jn (.lf 1) (.lf 2)))
  obtain ⟨o3, l3, e3⟩ := enc_form (.jn (.jn (.lf 1) (.lf 0)) (.lf 2))
  obtain ⟨o4, l4, e4⟩ := enc_form ft3
  rw [e1] at h2 h4
  rw [e2] at h2 h5
  rw [e3] at h2 h6
  rw [e4] at h1 h2 h3
  simp only [iV] at h1
  rw [pr_run fn8]
  simp -implicitDefEqProofs [bodyR, Try.f8, argTm, h1, h2, h3, h4, h5, h6, hlen, bV]

def joinsS : BT → Nat
  | .lf _ => 0
  | .jn a b => (match a with | .lf _ => 1 | .jn _ _ => 2) + joinsS a + joinsS b
theorem joinsS_le : ∀ b : BT, joinsS b ≤ b.big
  | .lf i => by simp [joinsS]
  | .jn a b => by
    have h1 := joinsS_le a
    have h2 := joinsS_le b
    simp only [joinsS, BT.big]
    split <;> omega

theorem joins_ev : ∀ (b : BT), b.big ≤ 1000 → Ev 12 [b.enc] (.p (iV (joinsS b)))
  | .lf i, _ => by
    refine ⟨1, fun n hn => ?_⟩
    obtain ⟨m, rfl⟩ : ∃ m, n = m + 1 := ⟨n - 1, by omega⟩
    rw [pr_run fn12]
    simp -implicitDefEqProofs [bodyR, Try.f12, argTm, enc_lf, iV, joinsS]
  | .jn a b, hb => by
    simp only [BT.big] at hb
    obtain ⟨N1, h1⟩ := joins_ev a (by omega)
    obtain ⟨N2, h2⟩ := joins_ev b (by omega)
    have ja := joinsS_le a
    have jb := joinsS_le b
    obtain ⟨ob, lb, hbe⟩ := enc_form b
    have hd := dr12
    simp only [regsF, Try.f12, regs, List.map, List.nil_append, List.append_nil, List.cons_append, List.cons.injEq, Prod.mk.injEq, and_true] at hd
    refine ⟨N1 + N2 + 1, fun n hn => ?_⟩
    obtain ⟨m, rfl⟩ : ∃ m, n = m + 1 := ⟨n - 1, by omega⟩
    have h1 := h1 m (by omega)
    have h2 := h2 m (by omega)
    rw [pr_run fn12]
    cases a with
    | lf i =>
      have w1 : IntKind.i64.wrap (1 + (joinsS b : Int)) = 1 + (joinsS b : Int) := wrap_small _ (by omega) (by omega)
      simp only [hbe, enc_jn, enc_lf, iV] at h1 h2 ⊢
      simp [joinsS] at h1
      simp -implicitDefEqProofs [bodyR, Try.f12, argTm, h1, h2, joinsS, hd.1, hd.2, w1]
    | jn c d =>
      obtain ⟨oc, lc, hce⟩ := enc_form c
      obtain ⟨od, ld, hde⟩ := enc_form d
      have w1 : IntKind.i64.wrap (2 + (joinsS (.jn c d) : Int)) = 2 + (joinsS (.jn c d) : Int) := wrap_small _ (by omega) (by omega)
      have w2 : IntKind.i64.wrap (2 + (joinsS (.jn c d) : Int) + (joinsS b : Int)) = 2 + (joinsS (.jn c d) : Int) + (joinsS b : Int) := wrap_small _ (by omega) (by omega)
      have hj : joinsS (.jn (.jn c d) b) = 2 + joinsS (.jn c d) + joinsS b := rfl
      rw [hj]
      generalize joinsS (.jn c d) = J at *
      simp only [hbe, hce, hde, enc_jn, iV] at h1 h2 ⊢
      simp -implicitDefEqProofs [bodyR, Try.f12, argTm, h1, h2, hd.1, hd.2, w1, w2]

end Go.Ab
