/-
  The document's Same and Has.
-/
import Derived.Test.YtlgjecmpmifjpaaR1l
set_option linter.unusedVariables false
set_option linter.unusedSimpArgs false
namespace Go.Ab
open Go.Proofs

set_option maxHeartbeats 2000000 in
theorem rsame_ev : ∀ (a b : BT), Ev 17 [a.enc, b.enc] (.p (bV (decide (a = b))))
  | .lf i, .lf j => by
    refine ⟨9, fun n hn => ?_⟩
    obtain ⟨m, rfl⟩ : ∃ m, n = m + 9 := ⟨n - 9, by omega⟩
    rw [pr_run fn17]
    by_cases hij : i = j
    · subst hij; simp -implicitDefEqProofs [bodyR, Try.f17, argTm, enc_lf, bV]
    · have : ¬ ((i : Int) = j) := by omega
      simp -implicitDefEqProofs [bodyR, Try.f17, argTm, enc_lf, bV, hij, this]
  | .lf i, .jn c d => by
    refine ⟨9, fun n hn => ?_⟩
    obtain ⟨m, rfl⟩ : ∃ m, n = m + 9 := ⟨n - 9, by omega⟩
    rw [pr_run fn17]
    by_cases hij : i = 0
    · subst hij; simp -implicitDefEqProofs [bodyR, Try.f17, argTm, enc_lf, enc_jn, bV]
    · have h3 : ¬ ((i : Int) = 0) := by omega
      simp -implicitDefEqProofs [bodyR, Try.f17, argTm, enc_lf, enc_jn, bV, hij, h3]
  | .jn c d, .lf i => by
    refine ⟨9, fun n hn => ?_⟩
    obtain ⟨m, rfl⟩ : ∃ m, n = m + 9 := ⟨n - 9, by omega⟩
    rw [pr_run fn17]
    by_cases hij : i = 0
    · subst hij; simp -implicitDefEqProofs [bodyR, Try.f17, argTm, enc_lf, enc_jn, bV]
    · have h3 : ¬ ((0 : Int) = i) := by omega
      have h4 : ((0 : Int) == i) = false := by simpa using h3
      simp -implicitDefEqProofs [bodyR, Try.f17, argTm, enc_lf, enc_jn, bV, hij, h3, h4]
  | .jn a b, .jn c d => by
    obtain ⟨N1, h1⟩ := rsame_ev a c
    obtain ⟨N2, h2⟩ := rsame_ev b d
    refine ⟨N1 + N2 + 9, fun n hn => ?_⟩
    obtain ⟨m, rfl⟩ : ∃ m, n = m + 9 := ⟨n - 9, by omega⟩
    have h1 := h1 (m + 8) (by omega)
    have h2 := h2 (m + 8) (by omega)
    obtain ⟨oa, la, ha⟩ := enc_form a
    obtain ⟨ob, lb, hb⟩ := enc_form b
    obtain ⟨oc, lc, hc⟩ := enc_form c
    obtain ⟨od, ld, hdd⟩ := enc_form d
    have hd := dr17
    simp only [regsF, Try.f17, regs, List.map, List.nil_append, List.append_nil, List.cons_append, List.cons.injEq, Prod.mk.injEq, and_true] at hd
    rw [pr_run fn17]
    simp only [enc_jn, bV, ha, hb, hc, hdd] at h1 h2 ⊢
    by_cases e1 : a = c
    · by_cases e2 : b = d
      · simp only [e1, e2, decide_true] at h1 h2
        simp -implicitDefEqProofs [bodyR, Try.f17, argTm, bV, h1, h2, e1, e2, hd.1, hd.2]
      · simp only [e1, e2, decide_true, decide_false] at h1 h2
        simp -implicitDefEqProofs [bodyR, Try.f17, argTm, bV, h1, h2, e1, e2, hd.1, hd.2]
    · simp only [e1, decide_false] at h1
      simp -implicitDefEqProofs [bodyR, Try.f17, argTm, bV, h1, h2, e1, hd.1, hd.2]

def Fr22 (tm : Nat → AV) (L : List PV) (i : Int) : Prop := tm 0 = .p (.list L) ∧ tm 3 = .ptr 0 0 ∧ tm 5 = .p (iV i)

theorem pcs22 : pcs Try.f22 = [pc Try.f22 0, pc Try.f22 1, pc Try.f22 2, pc Try.f22 3, pc Try.f22 4] := by rfl
theorem pc2_22 : pc Try.f22 2 = .block 0 (.loop (loopOf (pc Try.f22 2))) := by rfl

theorem lb22_end (m : Nat) (o : Int) (L X : List PV) (i : Nat) (tm : Nat → AV) (hf : Fr22 tm X i) (hx : X.length ≤ i) :
    ∃ tm', codeA (mkE m 22 false) 20 (loopOf (pc Try.f22 2)) ⟨tm, [.box [.p (.val (.int .i64 o)), .p (.list L)]]⟩ = some (.exit 0, ⟨tm', [.box [.p (.val (.int .i64 o)), .p (.list L)]]⟩) := by
  obtain ⟨f0, f3, f5⟩ := hf
  have h1 : ¬ ((i : Int) < X.length) := by omega
  simp only [iV] at *
  simp -implicitDefEqProofs [loopOf, pc, pcs, seqsC, Try.f22, f0, f3, f5, h1]

set_option maxHeartbeats 1000000 in
theorem lb22_go (m : Nat) (o : Int) (L X : List PV) (i : Nat) (tm : Nat → AV) (p : PV) (b : Bool) (hf : Fr22 tm X i) (hx : X[i]? = some p) (hi : i < 10000000) (hp : ∃ o l, p = .agg [.val (.int .i64 o), .list l])
    (hs : prA TP HT m 17 [p, .agg [.val (.int .i64 o), .list L]] = some (.p (bV b))) :
    ∃ tm', codeA (mkE m 22 false) 20 (loopOf (pc Try.f22 2)) ⟨tm, [.box [.p (.val (.int .i64 o)), .p (.list L)]]⟩ = some (if b then .ret else .normal, ⟨tm', [.box [.p (.val (.int .i64 o)), .p (.list L)]]⟩) ∧ (b = false → Fr22 tm' X (i + 1 : Nat)) ∧ (b = true → tm' 4 = .p (bV true)) := by
  obtain ⟨f0, f3, f5⟩ := hf
  obtain ⟨ot, lt, rfl⟩ := hp
  obtain ⟨hil, hix⟩ := List.getElem?_eq_some_iff.1 hx
  have h1 : (i : Int) < X.length := by omega
  have w3 : IntKind.i64.wrap ((i : Int) + 1) = (i : Int) + 1 := wrap_small _ (by omega) (by omega)
  have hd := dr22
  simp only [regsF, Try.f22, regs, List.map, List.nil_append, List.append_nil, List.cons_append, List.cons.injEq, Prod.mk.injEq, and_true] at hd
  simp only [iV, bV] at *
  cases b
  · simp -implicitDefEqProofs [loopOf, pc, pcs, seqsC, Try.f22, f0, f3, f5, h1, hil, hix, w3, hs, Fr22, iV, hd.1, hd.2]
  · simp -implicitDefEqProofs [loopOf, pc, pcs, seqsC, Try.f22, f0, f3, f5, h1, hil, hix, w3, hs, Fr22, iV, hd.1, hd.2]

theorem gc22 {tm : Nat → AV} {o : Int} {L X : List PV} {i : Nat} (hf : Fr22 tm X i) (hX : ∀ p ∈ X, ∃ o l, p = PV.agg [.val (.int .i64 o), .list l]) : ∃ tm', gcA 1 ⟨tm, [.box [.p (.val (.int .i64 o)), .p (.list L)]]⟩ = ⟨tm', [.box [.p (.val (.int .i64 o)), .p (.list L)]]⟩ ∧ Fr22 tm' X i := by
  obtain ⟨f0, f3, f5⟩ := hf
  refine ⟨fun t => cleanA 1 (tm t), by simp [gcA], ?_, ?_, ?_⟩ <;> simp [f0, f3, f5, iV]

theorem has_loop (m : Nat) (t : BT) (o : Int) (L : List PV) (ht : t.enc = .agg [.val (.int .i64 o), .list L]) (l : List BT) (hs : ∀ x ∈ l, prA TP HT m 17 [x.enc, t.enc] = some (.p (bV (decide (x = t))))) :
    ∀ (r pre : List BT), l = pre ++ r → l.length < 100000 → ∀ k, r.length < k → ∀ tm, Fr22 tm (l.map BT.enc) pre.length →
      ∃ tm', loopA true (codeA (mkE m 22 false) 20 (loopOf (pc Try.f22 2))) k ⟨tm, [.box [.p (.val (.int .i64 o)), .p (.list L)]]⟩ = some (if decide (t ∈ r) then .ret else .exit 0, ⟨tm', [.box [.p (.val (.int .i64 o)), .p (.list L)]]⟩) ∧ (t ∈ r → tm' 4 = .p (bV true))
  | [], pre, hl, hlen, k, hk, tm, hf => by
    obtain ⟨k', rfl⟩ : ∃ k', k = k' + 1 := ⟨k - 1, by simp at hk; omega⟩
    obtain ⟨tm', e1⟩ := lb22_end m o L (l.map BT.enc) pre.length tm hf (by rw [hl]; simp)
    rw [loopA_succ, e1, loopK_exit]
    exact ⟨tm', by simp, by simp⟩
  | x :: r, pre, hl, hlen, k, hk, tm, hf => by
    obtain ⟨k', rfl⟩ : ∃ k', k = k' + 1 := ⟨k - 1, by simp at hk; omega⟩
    have hx : (l.map BT.enc)[pre.length]? = some x.enc := by rw [hl]; simp
    have h1 := hs x (by rw [hl]; simp)
    rw [ht] at h1
    have hpl : pre.length < 100000 := by rw [hl] at hlen; simp at hlen; omega
    obtain ⟨tm1, e1, e2, e3⟩ := lb22_go m o L (l.map BT.enc) pre.length tm x.enc _ hf hx (by omega) (enc_form x) h1
    rw [loopA_succ, e1]
    by_cases hxt : x = t
    · subst hxt
      simp only [decide_true, if_true, loopK_ret]
      exact ⟨tm1, by simp, fun _ => e3 (by simp)⟩
    · simp only [hxt, decide_false, Bool.false_eq_true, if_false, loopK_normal, if_true]
      obtain ⟨tm2, g1, g2⟩ := gc22 (o := o) (L := L) (e2 (by simp [hxt])) (fun p hp => by obtain ⟨b, _, rfl⟩ := List.mem_map.1 hp; exact enc_form b)
      have hlen1 : List.length (ASt.mk tm [AObj.box [.p (.val (.int .i64 o)), .p (.list L)]]).st = 1 := rfl
      rw [hlen1, g1]
      obtain ⟨tm3, q1, q2⟩ := has_loop m t o L ht l hs r (pre ++ [x]) (by rw [hl]; simp) hlen k' (by simp at hk; omega) tm2 (by simpa using g2)
      have hne : ¬ t = x := fun h => hxt h.symm
      refine ⟨tm3, ?_, fun h => q2 ?_⟩
      · rw [q1]; simp [hne]
      · simpa [hne] using h

set_option maxHeartbeats 1000000 in
theorem has_ev (l : List BT) (t : BT) (hl : l.length < 100000) : Ev 22 [.list (l.map BT.enc), t.enc] (.p (bV (decide (t ∈ l)))) := by
  obtain ⟨N, h⟩ := fin_uni (P := fun x N => ∀ n, N ≤ n → prA TP HT n 17 [x.enc, t.enc] = some (.p (bV (decide (x = t))))) l fun x hx => by
    obtain ⟨N, h⟩ := rsame_ev x t
    exact ⟨N, fun n hn n' hn' => h n' (by omega)⟩
  obtain ⟨o, L, ht⟩ := enc_form t
  refine ⟨N + l.length + 9, fun n hn => ?_⟩
  obtain ⟨m, rfl⟩ : ∃ m, n = m + 1 := ⟨n - 1, by omega⟩
  have hnt : Try.f22.ntmps = 20 := rfl
  have hbp := bodyR_pcs m 22 Try.f22 [.p (.list (l.map BT.enc)), .p t.enc] [] rfl (by rw [hnt]; show 2 ≤ 20; omega) (by decide)
  have hp : ∃ tm1, runS (mkE m 22 false) 20 [pc Try.f22 0, pc Try.f22 1] ⟨argTm [.p (.list (l.map BT.enc)), .p t.enc], []⟩ = some (.normal, ⟨tm1, [.box [.p (.val (.int .i64 o)), .p (.list L)]]⟩) ∧ Fr22 tm1 (l.map BT.enc) 0 := by
    simp -implicitDefEqProofs [runS, pc, pcs, seqsC, Try.f22, argTm, ht, iV, Fr22]
  obtain ⟨tm1, hp, hf⟩ := hp
  obtain ⟨tm2, e1, e2⟩ := has_loop m t o L ht l (fun x hx => h x hx N (Nat.le_refl _) m (by omega)) l [] rfl hl m (by omega) tm1 hf
  have split2 : ∀ (r : List Code) (s : ASt), runS (mkE m 22 false) 20 (pc Try.f22 0 :: pc Try.f22 1 :: r) s = seqR (runS (mkE m 22 false) 20 [pc Try.f22 0, pc Try.f22 1] s) (runS (mkE m 22 false) 20 r) := fun r s => runS_app _ _ [_, _] r s
  have hgc : (!(mkE m 22 false).H.keep (mkE m 22 false).fid) = true := by simp
  have hK : (mkE m 22 false).K = m := rfl
  rw [pr_run fn22]
  simp only [List.map] at hbp ⊢
  rw [hbp, pcs22, hnt, split2, hp, seqR_normal, runS, pc2_22, codeA_block, codeA_loop, hgc, hK, e1]
  by_cases hm : t ∈ l
  · have e2 := e2 hm
    simp only [bV] at e2 ⊢
    simp -implicitDefEqProofs [runS, pc, pcs, seqsC, Try.f22, hm, e2]
  · simp -implicitDefEqProofs [runS, pc, pcs, seqsC, Try.f22, hm, bV]

end Go.Ab
