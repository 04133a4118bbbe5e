/-
  The document's May, as a call.
-/
import Derived.Test.YtlgjecmpmifjpaaS1e
set_option linter.unusedVariables false
set_option linter.unusedSimpArgs false
namespace Go.Ab
open Go.Proofs

noncomputable def mL0 : Code := loopOf (pc Try.f32 3)
noncomputable def mB1 : Code := blockOf ((seqsC mL0).getD 2 .skip)
noncomputable def mL2 : Code := loopOf ((seqsC mB1).getD 1 .skip)

def Fr32 (tm : Nat → AV) (X : List Int) (is : Bool) (i : Nat) : Prop := tm 3 = .p (.list (X.map iV)) ∧ tm 4 = .p (bV is) ∧ tm 5 = .p (iV i)
def Fr32i (tm : Nat → AV) (X : List Int) (is : Bool) (i k : Nat) : Prop := Fr32 tm X is i ∧ tm 6 = .p (iV k)

theorem pcs32 : pcs Try.f32 = [pc Try.f32 0, pc Try.f32 1, pc Try.f32 2, pc Try.f32 3, pc Try.f32 4, pc Try.f32 5] := by rfl
theorem pc3_32 : pc Try.f32 3 = .block 0 (.loop mL0) := by rfl
theorem sM0 : seqsC mL0 = [(seqsC mL0).getD 0 .skip, (seqsC mL0).getD 1 .skip, (seqsC mL0).getD 2 .skip, (seqsC mL0).getD 3 .skip] := by rfl
theorem sM1 : seqsC mB1 = [(seqsC mB1).getD 0 .skip, (seqsC mB1).getD 1 .skip] := by rfl
theorem bM0 : (seqsC mL0).getD 2 .skip = .block 1 mB1 := by rfl
theorem bM1 : (seqsC mB1).getD 1 .skip = .block 2 (.loop mL2) := by rfl

theorem in_end (m : Nat) (o : Int) (L : List PV) (X : List Int) (is : Bool) (i : Nat) (tm : Nat → AV) (hf : Fr32i tm X is i i) :
    ∃ tm', codeA (mkE m 32 false) 33 mL2 ⟨tm, [Bx o L]⟩ = some (.exit 2, ⟨tm', [Bx o L]⟩) ∧ Fr32 tm' X is i := by
  obtain ⟨⟨f3, f4, f5⟩, f6⟩ := hf
  simp only [iV, bV, Bx] at f4 f5 f6 ⊢
  simp -implicitDefEqProofs [mL2, mB1, mL0, loopOf, blockOf, pc, pcs, seqsC, Try.f32, f3, f4, f5, f6, Fr32, iV, bV]

set_option maxHeartbeats 2000000 in
theorem in_go (m : Nat) (o : Int) (L : List PV) (X : List Int) (is : Bool) (i k : Nat) (a c : Int) (tm : Nat → AV) (hf : Fr32i tm X is i k) (hk : k < i) (hi : i < 100000) (ha : X[k]? = some a) (hc : X[i]? = some c) :
    ∃ tm', codeA (mkE m 32 false) 33 mL2 ⟨tm, [Bx o L]⟩ = some (if a = c then .ret else .normal, ⟨tm', [Bx o L]⟩) ∧ (a = c → tm' 2 = .p (bV false)) ∧ (¬ a = c → Fr32i tm' X is i (k + 1)) := by
  obtain ⟨⟨f3, f4, f5⟩, f6⟩ := hf
  have w3 : IntKind.i64.wrap ((k : Int) + 1) = (k : Int) + 1 := wrap_small _ (by omega) (by omega)
  obtain ⟨k1, k2⟩ := List.getElem?_eq_some_iff.1 ha
  obtain ⟨c1, c2⟩ := List.getElem?_eq_some_iff.1 hc
  have hd := dr32
  simp only [regsF, Try.f32, regs, List.map, List.nil_append, List.append_nil, List.cons_append, List.cons.injEq, Prod.mk.injEq, and_true] at hd
  simp only [iV, bV, Bx] at f4 f5 f6 ⊢
  by_cases h : a = c
  · simp -implicitDefEqProofs [mL2, mB1, mL0, loopOf, blockOf, pc, pcs, seqsC, Try.f32, f3, f4, f5, f6, Fr32i, Fr32, iV, bV, hk, k1, k2, c1, c2, w3, h, hd.1, hd.2]
  · simp -implicitDefEqProofs [mL2, mB1, mL0, loopOf, blockOf, pc, pcs, seqsC, Try.f32, f3, f4, f5, f6, Fr32i, Fr32, iV, bV, hk, k1, k2, c1, c2, w3, h, hd.1, hd.2]

theorem gc32i {tm : Nat → AV} {o : Int} {L : List PV} {X : List Int} {is : Bool} {i k : Nat} (hf : Fr32i tm X is i k) : ∃ tm', gcA 1 ⟨tm, [Bx o L]⟩ = ⟨tm', [Bx o L]⟩ ∧ Fr32i tm' X is i k := by
  obtain ⟨⟨f3, f4, f5⟩, f6⟩ := hf
  refine ⟨fun t => cleanA 1 (tm t), by simp [gcA, Bx], ⟨?_, ?_, ?_⟩, ?_⟩ <;> simp [f3, f4, f5, f6, iV, bV]
theorem gc32 {tm : Nat → AV} {o : Int} {L : List PV} {X : List Int} {is : Bool} {i : Nat} (hf : Fr32 tm X is i) : ∃ tm', gcA 1 ⟨tm, [Bx o L]⟩ = ⟨tm', [Bx o L]⟩ ∧ Fr32 tm' X is i := by
  obtain ⟨f3, f4, f5⟩ := hf
  refine ⟨fun t => cleanA 1 (tm t), by simp [gcA, Bx], ?_, ?_, ?_⟩ <;> simp [f3, f4, f5, iV, bV]

theorem in_loop (m : Nat) (o : Int) (L : List PV) (X : List Int) (is : Bool) (i : Nat) (hi : i < X.length) (hX : X.length < 100000) :
    ∀ (d k : Nat), k + d = i → ∀ fu, d < fu → ∀ tm, Fr32i tm X is i k →
      (∃ tm', loopA true (codeA (mkE m 32 false) 33 mL2) fu ⟨tm, [Bx o L]⟩ = some (.ret, ⟨tm', [Bx o L]⟩) ∧ tm' 2 = .p (bV false) ∧ ∃ j, k ≤ j ∧ j < i ∧ X[j]? = X[i]?) ∨
      (∃ tm', loopA true (codeA (mkE m 32 false) 33 mL2) fu ⟨tm, [Bx o L]⟩ = some (.exit 2, ⟨tm', [Bx o L]⟩) ∧ Fr32 tm' X is i ∧ ∀ j, k ≤ j → j < i → X[j]? ≠ X[i]?)
  | 0, k, hd, fu, hfu, tm, hf => by
    obtain ⟨fu', rfl⟩ : ∃ k', fu = k' + 1 := ⟨fu - 1, by omega⟩
    obtain rfl : k = i := by omega
    obtain ⟨tm', e1, e2⟩ := in_end m o L X is k tm hf
    rw [loopA_succ, e1, loopK_exit]
    exact .inr ⟨tm', rfl, e2, fun j h1 h2 => by omega⟩
  | d + 1, k, hd, fu, hfu, tm, hf => by
    obtain ⟨fu', rfl⟩ : ∃ k', fu = k' + 1 := ⟨fu - 1, by omega⟩
    have hk : k < X.length := by omega
    obtain ⟨tm1, e1, e2, e3⟩ := in_go m o L X is i k X[k] X[i] tm hf (by omega) (by omega) (List.getElem?_eq_getElem hk) (List.getElem?_eq_getElem hi)
    rw [loopA_succ, e1]
    by_cases h : X[k] = X[i]
    · simp only [h, if_true, loopK_ret]
      exact .inl ⟨tm1, rfl, e2 h, k, by omega, by omega, by rw [List.getElem?_eq_getElem hk, List.getElem?_eq_getElem hi, h]⟩
    · simp only [h, if_false, loopK_normal, if_true]
      obtain ⟨tm2, g1, g2⟩ := gc32i (o := o) (L := L) (e3 h)
      have hlen1 : List.length (ASt.mk tm [Bx o L]).st = 1 := rfl
      rw [hlen1, g1]
      rcases in_loop m o L X is i hi hX d (k + 1) (by omega) fu' (by omega) tm2 g2 with ⟨tm', q1, q2, j, q3, q4, q5⟩ | ⟨tm', q1, q2, q3⟩
      · exact .inl ⟨tm', q1, q2, j, by omega, q4, q5⟩
      · refine .inr ⟨tm', q1, q2, fun j h1 h2 => ?_⟩
        by_cases hj : j = k
        · subst hj
          rw [List.getElem?_eq_getElem hk, List.getElem?_eq_getElem hi]
          exact fun e => h (by simpa using e)
        · exact q3 j (by omega) h2

theorem out_end (m : Nat) (o : Int) (L : List PV) (X : List Int) (is : Bool) (tm : Nat → AV) (hf : Fr32 tm X is X.length) :
    ∃ tm', codeA (mkE m 32 false) 33 mL0 ⟨tm, [Bx o L]⟩ = some (.exit 0, ⟨tm', [Bx o L]⟩) ∧ tm' 4 = .p (bV is) := by
  obtain ⟨f3, f4, f5⟩ := hf
  simp only [iV, bV, Bx] at f4 f5 ⊢
  simp -implicitDefEqProofs [mL2, mB1, mL0, loopOf, blockOf, pc, pcs, seqsC, Try.f32, f3, f4, f5, iV, bV]

set_option maxHeartbeats 2000000 in
theorem out_go (m : Nat) (o : Int) (L : List PV) (X : List Int) (is : Bool) (i : Nat) (tm : Nat → AV) (hf : Fr32 tm X is i) (hi : i < X.length) (hX : X.length < 100000) (hm : X.length < m) :
    (∃ tm', codeA (mkE m 32 false) 33 mL0 ⟨tm, [Bx o L]⟩ = some (.ret, ⟨tm', [Bx o L]⟩) ∧ tm' 2 = .p (bV false) ∧ ∃ j, j < i ∧ X[j]? = X[i]?) ∨
    (∃ tm', codeA (mkE m 32 false) 33 mL0 ⟨tm, [Bx o L]⟩ = some (.normal, ⟨tm', [Bx o L]⟩) ∧ Fr32 tm' X is (i + 1) ∧ ∀ j, j < i → X[j]? ≠ X[i]?) := by
  obtain ⟨f3, f4, f5⟩ := hf
  have w3 : IntKind.i64.wrap ((i : Int) + 1) = (i : Int) + 1 := wrap_small _ (by omega) (by omega)
  have hp1 : ∃ tm1, runS (mkE m 32 false) 33 [(seqsC mL0).getD 0 .skip, (seqsC mL0).getD 1 .skip] ⟨tm, [Bx o L]⟩ = some (.normal, ⟨tm1, [Bx o L]⟩) ∧ Fr32 tm1 X is i := by
    simp only [iV, bV, Bx] at f4 f5 ⊢
    simp -implicitDefEqProofs [runS, mL2, mB1, mL0, loopOf, blockOf, pc, pcs, seqsC, Try.f32, f3, f4, f5, hi, Fr32, iV, bV]
  obtain ⟨tm1, hp1, f3, f4, f5⟩ := hp1
  have hp2 : ∃ tm2, codeA (mkE m 32 false) 33 ((seqsC mB1).getD 0 .skip) ⟨tm1, [Bx o L]⟩ = some (.normal, ⟨tm2, [Bx o L]⟩) ∧ Fr32i tm2 X is i 0 := by
    simp only [iV, bV, Bx] at f4 f5 ⊢
    simp -implicitDefEqProofs [runS, mL2, mB1, mL0, loopOf, blockOf, pc, pcs, seqsC, Try.f32, f3, f4, f5, Fr32i, Fr32, iV, bV]
  obtain ⟨tm2, hp2, hf2⟩ := hp2
  have hgc : (!(mkE m 32 false).H.keep (mkE m 32 false).fid) = true := by simp
  have hK : (mkE m 32 false).K = m := rfl
  have split2 : ∀ (a b : Code) (r : List Code) (s : ASt), runS (mkE m 32 false) 33 (a :: b :: r) s = seqR (runS (mkE m 32 false) 33 [a, b] s) (runS (mkE m 32 false) 33 r) := fun a b r s => runS_app _ _ [_, _] r s
  rw [runS_seqs, sM0, split2, hp1, seqR_normal, runS, bM0, codeA_block, runS_seqs, sM1]
  simp only [runS]
  rw [hp2, seqR_normal, bM1, codeA_block, codeA_loop, hgc, hK]
  rcases in_loop m o L X is i hi hX i 0 (by omega) m (by omega) tm2 hf2 with ⟨tm', q1, q2, j, q3, q4, q5⟩ | ⟨tm', q1, ⟨f3, f4, f5⟩, q3⟩
  · left
    rw [q1]
    exact ⟨tm', by simp, q2, j, q4, q5⟩
  · right
    rw [q1]
    have hp3 : ∃ tm4, codeA (mkE m 32 false) 33 ((seqsC mL0).getD 3 .skip) ⟨tm', [Bx o L]⟩ = some (.normal, ⟨tm4, [Bx o L]⟩) ∧ Fr32 tm4 X is (i + 1) := by
      simp only [iV, bV, Bx] at f4 f5 ⊢
      simp -implicitDefEqProofs [runS, mL2, mB1, mL0, loopOf, blockOf, pc, pcs, seqsC, Try.f32, f3, f4, f5, w3, Fr32, iV, bV]
    obtain ⟨tm4, hp3, hf4⟩ := hp3
    refine ⟨tm4, ?_, hf4, fun j hj => q3 j (by omega) hj⟩
    simp only [blockR_exit, if_true, seqR_normal, blockR_normal, hp3]

theorem out_loop (m : Nat) (o : Int) (L : List PV) (X : List Int) (is : Bool) (hX : X.length < 100000) (hm : X.length < m) :
    ∀ (d i : Nat), i + d = X.length → (∀ i' j, j < i' → i' < i → X[j]? ≠ X[i']?) → ∀ fu, d < fu → ∀ tm, Fr32 tm X is i →
      (∃ tm', loopA true (codeA (mkE m 32 false) 33 mL0) fu ⟨tm, [Bx o L]⟩ = some (.ret, ⟨tm', [Bx o L]⟩) ∧ tm' 2 = .p (bV false) ∧ ¬ X.Nodup) ∨
      (∃ tm', loopA true (codeA (mkE m 32 false) 33 mL0) fu ⟨tm, [Bx o L]⟩ = some (.exit 0, ⟨tm', [Bx o L]⟩) ∧ tm' 4 = .p (bV is) ∧ X.Nodup)
  | 0, i, hd, hne, fu, hfu, tm, hf => by
    obtain ⟨fu', rfl⟩ : ∃ k', fu = k' + 1 := ⟨fu - 1, by omega⟩
    obtain rfl : i = X.length := by omega
    obtain ⟨tm', e1, e2⟩ := out_end m o L X is tm hf
    rw [loopA_succ, e1, loopK_exit]
    refine .inr ⟨tm', rfl, e2, List.pairwise_iff_getElem.2 fun a b ha hb hab e => ?_⟩
    exact hne b a hab hb (by rw [List.getElem?_eq_getElem ha, List.getElem?_eq_getElem hb, e])
  | d + 1, i, hd, hne, fu, hfu, tm, hf => by
    obtain ⟨fu', rfl⟩ : ∃ k', fu = k' + 1 := ⟨fu - 1, by omega⟩
    have hi : i < X.length := by omega
    rcases out_go m o L X is i tm hf hi hX hm with ⟨tm', q1, q2, j, q3, q4⟩ | ⟨tm', q1, q2, q3⟩
    · left
      rw [loopA_succ, q1, loopK_ret]
      refine ⟨tm', rfl, q2, fun hn => ?_⟩
      have hj : j < X.length := by omega
      rw [List.getElem?_eq_getElem hj, List.getElem?_eq_getElem hi] at q4
      exact List.pairwise_iff_getElem.1 hn j i hj hi q3 (by simpa using q4)
    · rw [loopA_succ, q1, loopK_normal, if_pos rfl]
      obtain ⟨tm2, g1, g2⟩ := gc32 (o := o) (L := L) q2
      have hlen1 : List.length (ASt.mk tm [Bx o L]).st = 1 := rfl
      rw [hlen1, g1]
      refine out_loop m o L X is hX hm d (i + 1) (by omega) (fun i' j hj hi' => ?_) fu' (by omega) tm2 g2
      by_cases h : i' = i
      · subst h; exact q3 j hj
      · exact hne i' j hj (by omega)

theorem mayT_leaves (t : Tr) : mayT t = ((leavesS 4 t).2 && decide (leavesS 4 t).1.Nodup) := by
  have h := (may_same 4 t).1
  unfold mayT
  rw [Bool.eq_iff_iff]
  simp only [Bool.and_eq_true, decide_eq_true_eq]
  exact h

set_option maxHeartbeats 1000000 in
theorem rmay_ev (t : Tr) : Ev 32 [t.enc] (.p (bV (mayT t))) := by
  obtain ⟨N, h⟩ := leaves_ev 4 (by omega) t
  obtain ⟨o, L, ht⟩ := tr_form t
  have hX := leavesS_len 4 t
  rw [mayT_leaves]
  obtain ⟨X, is, hl⟩ : ∃ X is, leavesS 4 t = (X, is) := ⟨_, _, rfl⟩
  rw [hl] at h hX ⊢
  refine ⟨N + 100, fun n hn => ?_⟩
  obtain ⟨m, rfl⟩ : ∃ m, n = m + 1 := ⟨n - 1, by omega⟩
  have h := h m (by omega)
  simp only at h hX
  have hnt : Try.f32.ntmps = 33 := rfl
  have hbp := bodyR_pcs m 32 Try.f32 [.p t.enc] [] rfl (by rw [hnt]; show 1 ≤ 33; omega) (by decide)
  have hp : ∃ tm1, runS (mkE m 32 false) 33 [pc Try.f32 0, pc Try.f32 1, pc Try.f32 2] ⟨argTm [.p t.enc], []⟩ = some (.normal, ⟨tm1, [Bx o L]⟩) ∧ Fr32 tm1 X is 0 := by
    have h5 : (5 : Int) - (4 : Nat) = 1 := by decide
    rw [h5] at h
    simp only [ht, bV, Bx] at h ⊢
    have i1 : iV 1 = .val (.int .i64 1) := rfl
    rw [i1] at h
    simp -implicitDefEqProofs [runS, pc, pcs, seqsC, Try.f32, argTm, h, Fr32, iV, bV]
  obtain ⟨tm1, hp, hf⟩ := hp
  have split3 : ∀ (r : List Code) (s : ASt), runS (mkE m 32 false) 33 (pc Try.f32 0 :: pc Try.f32 1 :: pc Try.f32 2 :: r) s = seqR (runS (mkE m 32 false) 33 [pc Try.f32 0, pc Try.f32 1, pc Try.f32 2] s) (runS (mkE m 32 false) 33 r) := fun r s => runS_app _ _ [_, _, _] r s
  have hgc : (!(mkE m 32 false).H.keep (mkE m 32 false).fid) = true := by simp
  have hK : (mkE m 32 false).K = m := rfl
  rw [pr_run fn32]
  simp only [List.map] at hbp ⊢
  rw [hbp, pcs32, hnt, split3, hp, seqR_normal, runS, pc3_32, codeA_block, codeA_loop, hgc, hK]
  rcases out_loop m o L X is (by omega) (by omega) X.length 0 (by omega) (fun i' j _ h => by omega) m (by omega) tm1 hf with ⟨tm', q1, q2, q3⟩ | ⟨tm', q1, q2, q3⟩
  · rw [q1]
    simp only [bV] at q2 ⊢
    simp -implicitDefEqProofs [runS, pc, pcs, seqsC, Try.f32, q2, q3]
  · rw [q1]
    simp only [bV] at q2 ⊢
    simp -implicitDefEqProofs [runS, pc, pcs, seqsC, Try.f32, q2, q3]

end Go.Ab
