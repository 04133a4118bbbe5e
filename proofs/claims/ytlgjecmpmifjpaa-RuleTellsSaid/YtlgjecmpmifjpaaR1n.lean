/-
  RuleTwo.
-/
import Derived.Test.YtlgjecmpmifjpaaR1m
import Derived.Test.YtlgjecmpmifjpaaR1d
set_option linter.unusedVariables false
set_option linter.unusedSimpArgs false
namespace Go.Ab
open Go.Proofs

theorem set_le {m : Nat} (hm : m ∈ masks) : (SetL m).length ≤ 120 := by
  simpa using List.all_eq_true.1 set_len m hm

set_option maxHeartbeats 4000000 in
theorem ruleTwo_ev (t : Tr) (i : Int) : Ev 5 [t.enc, iV i] (.p (bV true)) := by
  obtain ⟨N1, h1⟩ := awake_ev
  obtain ⟨N2, h2⟩ := size_ev t 30 (by omega) (by omega)
  obtain ⟨o, l, ht⟩ := tr_form t
  have hd := dr5
  simp only [regsF, Try.f5, regs, List.map, List.nil_append, List.append_nil, List.cons_append, List.cons.injEq, Prod.mk.injEq, and_true] at hd
  cases hm : mayT t with
  | false =>
    obtain ⟨N4, h4⟩ := next_no t hm
    refine ⟨N1 + N2 + N4 + 1, fun n hn => ?_⟩
    obtain ⟨m, rfl⟩ : ∃ m, n = m + 1 := ⟨n - 1, by omega⟩
    have h1 := h1 m (by omega)
    have h2 := h2 m (by omega)
    have h4 := h4 m (by omega)
    rw [pr_run fn5]
    simp only [ht, iV, bV] at h1 h2 h4 ⊢
    by_cases hs : sizeS t 30 > 30
    · simp -implicitDefEqProofs [bodyR, Try.f5, argTm, h1, h2, h4, hs]
    · by_cases hi : i < 0
      · simp -implicitDefEqProofs [bodyR, Try.f5, argTm, h1, h2, h4, hs, hi]
      · have hi' : 0 ≤ i := by omega
        simp -implicitDefEqProofs [bodyR, Try.f5, argTm, h1, h2, h4, hs, hi, hi']
  | true =>
    obtain ⟨b, hb, hok, hA⟩ := bt_of_may hm
    obtain ⟨mk, hmk, hbs, F⟩ := A4_facts hA
    obtain ⟨N4, h4⟩ := next_yes b F.all F.bud
    have hbe : b.enc = t.enc := by rw [hb]; rfl
    by_cases hin : 0 ≤ i ∧ i < (eachS b).length
    · obtain ⟨hi1, hi2⟩ := hin
      obtain ⟨j, rfl⟩ : ∃ j : Nat, i = j := ⟨i.toNat, by omega⟩
      have hj : j < (eachS b).length := by omega
      obtain ⟨x, hx⟩ : ∃ x, (eachS b)[j]? = some x := ⟨_, List.getElem?_eq_getElem hj⟩
      have hxs : x ∈ SetL mk := F.next x (List.mem_of_getElem? hx)
      have hxA : x ∈ A4 := mem_A4.2 ⟨mk, hmk, hxs⟩
      obtain ⟨N5, h5⟩ := close_yes hxA
      obtain ⟨N6, h6⟩ := close_yes hA
      have cx := close_ok hmk hxs
      have cb := close_ok hmk hbs
      have lx := close_len hmk hxs
      have lb := close_len hmk hbs
      have hll : (closeS x).length = (closeS b).length := by omega
      obtain ⟨N7, h7⟩ := has_ev (closeS x) b (by have := set_le hmk; omega)
      obtain ⟨N8, h8⟩ := same_ev x x
      obtain ⟨r, hr⟩ := cx.first
      have hbx : b ∈ closeS x := (cx.mem b).2 hbs
      have hpos : 0 < (closeS b).length := by rw [← hll, hr]; simp
      refine ⟨N1 + N2 + N4 + N5 + N6 + N7 + N8 + 1, fun n hn => ?_⟩
      obtain ⟨m, rfl⟩ : ∃ m, n = m + 1 := ⟨n - 1, by omega⟩
      have h1 := h1 m (by omega)
      have h2 := h2 m (by omega)
      have h4 := h4 m (by omega)
      have h5 := h5 m (by omega)
      have h6 := h6 m (by omega)
      have h7 := h7 m (by omega)
      have h8 := h8 m (by omega)
      obtain ⟨ox, lx', hxe⟩ := enc_form x
      have hmap : ((eachS b).map BT.enc)[j]? = some x.enc := by simp [hx]
      have hC0 : ((closeS x).map BT.enc)[0]? = some x.enc := by rw [hr]; simp
      generalize hE : (eachS b).map BT.enc = E at *
      have hEl : E.length = (eachS b).length := by rw [← hE]; simp
      generalize hCx : (closeS x).map BT.enc = C at *
      have hCl : C.length = (closeS x).length := by rw [← hCx]; simp
      generalize hCb : (closeS b).map BT.enc = D at *
      have hDl : D.length = (closeS b).length := by rw [← hCb]; simp
      have hlt : (j : Int) < E.length := by omega
      have hjl : j < E.length := by omega
      have hEj : E[j]'hjl = .agg [.val (.int .i64 ox), .list lx'] := by
        rw [List.getElem?_eq_getElem hjl, Option.some.injEq] at hmap
        rw [hmap, hxe]
      have hCD : (C.length : Int) = D.length := by omega
      have hc0 : 0 < C.length := by omega
      have hCj : C[0]'hc0 = .agg [.val (.int .i64 ox), .list lx'] := by
        rw [List.getElem?_eq_getElem hc0, Option.some.injEq] at hC0
        rw [hC0, hxe]
      rw [pr_run fn5]
      simp only [hbe, ht, hxe, iV, bV, hm, decide_true, hbx] at h1 h2 h4 h5 h6 h7 h8 ⊢
      have hj0 : ¬ ((j : Int) < 0) := by omega
      have hD0 : (0 : Int) < D.length := by omega
      have hnle : ¬ (E.length ≤ j) := by omega
      have hCD' : C.length = D.length := by omega
      have hD0' : 0 < D.length := by omega
      by_cases hs : sizeS t 30 > 30
      · simp -implicitDefEqProofs [bodyR, Try.f5, argTm, h1, h2, h4, h5, h6, h7, h8, hs]
      · simp -implicitDefEqProofs [bodyR, Try.f5, argTm, h1, h2, h4, h5, h6, h7, h8, hs, hd.1, hd.2, hj0, hjl, hnle, hEj, hCD', hCj, hD0', hc0]
    · have hlen : ((eachS b).map BT.enc).length = (eachS b).length := by simp
      refine ⟨N1 + N2 + N4 + 1, fun n hn => ?_⟩
      obtain ⟨m, rfl⟩ : ∃ m, n = m + 1 := ⟨n - 1, by omega⟩
      have h1 := h1 m (by omega)
      have h2 := h2 m (by omega)
      have h4 := h4 m (by omega)
      generalize hE : (eachS b).map BT.enc = E at *
      rw [pr_run fn5]
      simp only [hbe, ht, iV, bV] at h1 h2 h4 ⊢
      by_cases hs : sizeS t 30 > 30
      · simp -implicitDefEqProofs [bodyR, Try.f5, argTm, h1, h2, h4, hs]
      · by_cases hi : i < 0
        · simp -implicitDefEqProofs [bodyR, Try.f5, argTm, h1, h2, h4, hs, hi]
        · have hi' : (E.length : Int) ≤ i := by omega
          simp -implicitDefEqProofs [bodyR, Try.f5, argTm, h1, h2, h4, hs, hi, hi']

end Go.Ab
