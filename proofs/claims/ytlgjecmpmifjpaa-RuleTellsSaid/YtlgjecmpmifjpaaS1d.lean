/-
  The document's Lists and leaves.
-/
import Derived.Test.YtlgjecmpmifjpaaS1b
set_option linter.unusedVariables false
set_option linter.unusedSimpArgs false
namespace Go.Ab
open Go.Proofs

def Fr18 (tm : Nat → AV) (X : List PV) (i : Nat) : Prop := tm 0 = .p (.list X) ∧ tm 1 = .p (.list X) ∧ tm 5 = .p (iV i)

theorem pcs18 : pcs Try.f18 = [pc Try.f18 0, pc Try.f18 1, pc Try.f18 2, pc Try.f18 3, pc Try.f18 4, pc Try.f18 5, pc Try.f18 6] := by rfl
theorem pc4_18 : pc Try.f18 4 = .block 0 (.loop (loopOf (pc Try.f18 4))) := by rfl

theorem lb18_end (m : Nat) (X : List PV) (i : Nat) (tm : Nat → AV) (hf : Fr18 tm X i) (hx : X.length ≤ i) :
    ∃ tm', codeA (mkE m 18 false) 29 (loopOf (pc Try.f18 4)) ⟨tm, []⟩ = some (.exit 0, ⟨tm', []⟩) := by
  obtain ⟨f0, f1, f5⟩ := hf
  have h1 : ¬ (i < X.length) := by omega
  simp only [iV] at *
  simp -implicitDefEqProofs [loopOf, pc, pcs, seqsC, Try.f18, f0, f1, f5, h1]

set_option maxHeartbeats 2000000 in
theorem lb18_go (m : Nat) (o1 : Int) (l1 X : List PV) (i : Nat) (tm : Nat → AV) (hf : Fr18 tm X i) (hx : X[i]? = some (.agg [.val (.int .i64 o1), .list l1])) (hi : i < 10000000)
    (hs : prA TP HT m 17 [.agg [.val (.int .i64 o1), .list l1], .agg [.val (.int .i64 o1), .list l1]] = some (.p (bV true))) :
    ∃ tm', codeA (mkE m 18 false) 29 (loopOf (pc Try.f18 4)) ⟨tm, []⟩ = some (.normal, ⟨tm', []⟩) ∧ Fr18 tm' X (i + 1 : Nat) := by
  obtain ⟨f0, f1, f5⟩ := hf
  obtain ⟨hil, hix⟩ := List.getElem?_eq_some_iff.1 hx
  have w3 : IntKind.i64.wrap ((i : Int) + 1) = (i : Int) + 1 := wrap_small _ (by omega) (by omega)
  have hd := dr18
  simp only [regsF, Try.f18, regs, List.map, List.nil_append, List.append_nil, List.cons_append, List.cons.injEq, Prod.mk.injEq, and_true] at hd
  simp only [iV, bV] at *
  simp -implicitDefEqProofs [loopOf, pc, pcs, seqsC, Try.f18, f0, f1, f5, hil, hix, w3, hs, Fr18, iV, bV, hd.1, hd.2]

theorem gc18 {tm : Nat → AV} {X : List PV} {i : Nat} (hf : Fr18 tm X i) : ∃ tm', gcA 0 ⟨tm, []⟩ = ⟨tm', []⟩ ∧ Fr18 tm' X i := by
  obtain ⟨f0, f1, f5⟩ := hf
  refine ⟨fun t => cleanA 0 (tm t), by simp [gcA], ?_, ?_, ?_⟩ <;> simp [f0, f1, f5, iV]

theorem lists_loop (m : Nat) (l : List BT) (hs : ∀ x ∈ l, prA TP HT m 17 [x.enc, x.enc] = some (.p (bV true))) :
    ∀ (r pre : List BT), l = pre ++ r → l.length < 100000 → ∀ k, r.length < k → ∀ tm, Fr18 tm (l.map BT.enc) pre.length →
      ∃ tm', loopA true (codeA (mkE m 18 false) 29 (loopOf (pc Try.f18 4))) k ⟨tm, []⟩ = some (.exit 0, ⟨tm', []⟩)
  | [], pre, hl, hlen, k, hk, tm, hf => by
    obtain ⟨k', rfl⟩ : ∃ k', k = k' + 1 := ⟨k - 1, by simp at hk; omega⟩
    obtain ⟨tm', e1⟩ := lb18_end m (l.map BT.enc) pre.length tm hf (by rw [hl]; simp)
    rw [loopA_succ, e1, loopK_exit]
    exact ⟨tm', rfl⟩
  | x :: r, pre, hl, hlen, k, hk, tm, hf => by
    obtain ⟨k', rfl⟩ : ∃ k', k = k' + 1 := ⟨k - 1, by simp at hk; omega⟩
    obtain ⟨o1, l1, hxe⟩ := enc_form x
    have hx : (l.map BT.enc)[pre.length]? = some (.agg [.val (.int .i64 o1), .list l1]) := by rw [hl, ← hxe]; simp
    have hpl : pre.length < 100000 := by rw [hl] at hlen; simp at hlen; omega
    obtain ⟨tm1, e1, e2⟩ := lb18_go m o1 l1 (l.map BT.enc) pre.length tm hf hx (by omega) (hxe ▸ hs x (by rw [hl]; simp))
    rw [loopA_succ, e1, loopK_normal, if_pos rfl]
    obtain ⟨tm2, g1, g2⟩ := gc18 e2
    have hlen1 : List.length (ASt.mk tm []).st = 0 := rfl
    rw [hlen1, g1]
    exact lists_loop m l hs r (pre ++ [x]) (by rw [hl]; simp) hlen k' (by simp at hk; omega) tm2 (by simpa using g2)

set_option maxHeartbeats 1000000 in
theorem lists_ev (l : List BT) (hl : l.length < 100000) : Ev 18 [.list (l.map BT.enc), .list (l.map BT.enc)] (.p (bV true)) := by
  obtain ⟨N, h⟩ := fin_uni (P := fun x N => ∀ n, N ≤ n → prA TP HT n 17 [x.enc, x.enc] = some (.p (bV true))) l fun x hx => by
    obtain ⟨N, h⟩ := rsame_ev x x
    rw [decide_eq_true rfl] at h
    exact ⟨N, fun n hn n' hn' => h n' (by omega)⟩
  refine ⟨N + l.length + 9, fun n hn => ?_⟩
  obtain ⟨m, rfl⟩ : ∃ m, n = m + 1 := ⟨n - 1, by omega⟩
  have hnt : Try.f18.ntmps = 29 := rfl
  have hbp := bodyR_pcs m 18 Try.f18 [.p (.list (l.map BT.enc)), .p (.list (l.map BT.enc))] [] rfl (by rw [hnt]; show 2 ≤ 29; omega) (by decide)
  have hp : ∃ tm1, runS (mkE m 18 false) 29 [pc Try.f18 0, pc Try.f18 1, pc Try.f18 2, pc Try.f18 3] ⟨argTm [.p (.list (l.map BT.enc)), .p (.list (l.map BT.enc))], []⟩ = some (.normal, ⟨tm1, []⟩) ∧ Fr18 tm1 (l.map BT.enc) 0 := by
    generalize l.map BT.enc = X
    simp -implicitDefEqProofs [runS, pc, pcs, seqsC, Try.f18, argTm, iV, Fr18]
  obtain ⟨tm1, hp, hf⟩ := hp
  obtain ⟨tm2, e1⟩ := lists_loop m l (fun x hx => h x hx N (Nat.le_refl _) m (by omega)) l [] rfl hl m (by omega) tm1 hf
  have split4 : ∀ (r : List Code) (s : ASt), runS (mkE m 18 false) 29 (pc Try.f18 0 :: pc Try.f18 1 :: pc Try.f18 2 :: pc Try.f18 3 :: r) s = seqR (runS (mkE m 18 false) 29 [pc Try.f18 0, pc Try.f18 1, pc Try.f18 2, pc Try.f18 3] s) (runS (mkE m 18 false) 29 r) := fun r s => runS_app _ _ [_, _, _, _] r s
  have hgc : (!(mkE m 18 false).H.keep (mkE m 18 false).fid) = true := by simp
  have hK : (mkE m 18 false).K = m := rfl
  rw [pr_run fn18]
  simp only [List.map] at hbp ⊢
  rw [hbp, pcs18, hnt, split4, hp, seqR_normal, runS, pc4_18, codeA_block, codeA_loop, hgc, hK, e1]
  simp -implicitDefEqProofs [runS, pc, pcs, seqsC, Try.f18, bV]

/-- A tree's occurrences, so deep at most; whether all is as it must be. -/
def leavesS : Nat → Tr → List Int × Bool
  | 0, _ => ([], false)
  | d + 1, .mk o l => match l with
    | [] => ([o], decide (0 ≤ o) && decide (o ≤ 3))
    | [a, b] => if o = 0 then ((leavesS d a).1 ++ (leavesS d b).1, (leavesS d a).2 && (leavesS d b).2) else ([], false)
    | _ => ([], false)

theorem leavesS_len : ∀ (d : Nat) (t : Tr), (leavesS d t).1.length ≤ 2 ^ d
  | 0, t => by simp [leavesS]
  | d + 1, .mk o l => by
    unfold leavesS
    split
    · have := Nat.two_pow_pos (d + 1)
      simp; omega
    · rename_i a b
      split
      · have h1 := leavesS_len d a
        have h2 := leavesS_len d b
        simp only [List.length_append, Nat.pow_succ]; omega
      · simp
    · simp

theorem leaves_ev : ∀ (d : Nat), d ≤ 4 → ∀ t : Tr, Ev 41 [t.enc, iV ((5 : Int) - d)] (.tup [.p (.list ((leavesS d t).1.map iV)), .p (bV (leavesS d t).2)])
  | 0, _, t => by
    refine ⟨1, fun n hn => ?_⟩
    obtain ⟨m, rfl⟩ : ∃ m, n = m + 1 := ⟨n - 1, by omega⟩
    obtain ⟨o, l, ht⟩ := tr_form t
    rw [pr_run fn41]
    simp only [ht, iV]
    simp -implicitDefEqProofs [bodyR, Try.f41, argTm, leavesS, bV]
  | d + 1, hd4, .mk o [] => by
    have hd := dr41
    simp only [regsF, Try.f41, regs, List.map, List.nil_append, List.append_nil, List.cons_append, List.cons.injEq, Prod.mk.injEq, and_true] at hd
    have hdd : ¬ (4 < (5 : Int) - ((d + 1 : Nat) : Int)) := by omega
    refine ⟨1, fun n hn => ?_⟩
    obtain ⟨m, rfl⟩ : ∃ m, n = m + 1 := ⟨n - 1, by omega⟩
    rw [pr_run fn41]
    generalize ((5 : Int) - ((d + 1 : Nat) : Int)) = D at *
    by_cases h0 : 0 ≤ o <;> by_cases h3 : o ≤ 3 <;>
    simp -implicitDefEqProofs [bodyR, Try.f41, argTm, Tr.enc, encL, iV, leavesS, bV, hdd, h0, h3, hd.1, hd.2]
  | d + 1, hd4, .mk o [a] => by
    have hdd : ¬ (4 < (5 : Int) - ((d + 1 : Nat) : Int)) := by omega
    refine ⟨1, fun n hn => ?_⟩
    obtain ⟨m, rfl⟩ : ∃ m, n = m + 1 := ⟨n - 1, by omega⟩
    rw [pr_run fn41]
    generalize ((5 : Int) - ((d + 1 : Nat) : Int)) = D at *
    simp -implicitDefEqProofs [bodyR, Try.f41, argTm, Tr.enc, encL, iV, leavesS, bV, hdd]
  | d + 1, hd4, .mk o (a :: b :: c :: r) => by
    have hdd : ¬ (4 < (5 : Int) - ((d + 1 : Nat) : Int)) := by omega
    refine ⟨1, fun n hn => ?_⟩
    obtain ⟨m, rfl⟩ : ∃ m, n = m + 1 := ⟨n - 1, by omega⟩
    rw [pr_run fn41]
    generalize ((5 : Int) - ((d + 1 : Nat) : Int)) = D at *
    have h1 : ¬ ((r.length : Int) + 1 + 1 + 1 = 0) := by omega
    have h2 : ¬ ((r.length : Int) + 1 + 1 + 1 = 2) := by omega
    simp -implicitDefEqProofs [bodyR, Try.f41, argTm, Tr.enc, encL, encL_len, iV, leavesS, bV, hdd, h1, h2]
  | d + 1, hd4, .mk o [a, b] => by
    have hdd : ¬ (4 < (5 : Int) - ((d + 1 : Nat) : Int)) := by omega
    obtain ⟨N1, h1⟩ := leaves_ev d (by omega) a
    obtain ⟨N2, h2⟩ := leaves_ev d (by omega) b
    refine ⟨N1 + N2 + 1, fun n hn => ?_⟩
    obtain ⟨m, rfl⟩ : ∃ m, n = m + 1 := ⟨n - 1, by omega⟩
    have h1 := h1 m (by omega)
    have h2 := h2 m (by omega)
    have hw : IntKind.i64.wrap ((5 : Int) - ((d + 1 : Nat) : Int) + 1) = (5 : Int) - d := by rw [wrap_small _ (by omega) (by omega)]; omega
    have la := leavesS_len d a
    have lb := leavesS_len d b
    have hp : 2 ^ d ≤ 2 ^ 4 := Nat.pow_le_pow_right (by decide) (by omega)
    obtain ⟨oa, ka, hae⟩ := tr_form a
    obtain ⟨ob, kb, hbe⟩ := tr_form b
    rw [pr_run fn41]
    generalize ((5 : Int) - ((d + 1 : Nat) : Int)) = D at *
    by_cases ho : o = 0
    · obtain ⟨x, p, hx⟩ : ∃ x p, leavesS d a = (x, p) := ⟨_, _, rfl⟩
      obtain ⟨y, q, hy⟩ : ∃ y q, leavesS d b = (y, q) := ⟨_, _, rfl⟩
      rw [hx] at h1 la
      rw [hy] at h2 lb
      have hr : leavesS (d + 1) (.mk o [a, b]) = (x ++ y, p && q) := by simp [leavesS, ho, hx, hy]
      rw [hr]
      simp only [Tr.enc, encL, hae, hbe, iV, bV, ho] at h1 h2 la lb ⊢
      have r1 : (x.length) * 9 ≤ 1099511627776 := by omega
      have r2 : (x.length + y.length) * 9 ≤ 1099511627776 := by omega
      have r3 : (y.length) * 9 ≤ 1099511627776 := by omega
      cases x with
      | nil =>
        cases y with
        | nil =>
          cases p <;> simp -implicitDefEqProofs [bodyR, Try.f41, argTm, iV, hdd, hw, h1, h2]
        | cons v vs =>
          simp only [List.length_cons] at r3
          cases p <;> simp -implicitDefEqProofs [bodyR, Try.f41, argTm, iV, hdd, hw, h1, h2, r3]
      | cons u us =>
        cases y with
        | nil =>
          simp only [List.length_cons] at r1
          cases p <;> simp -implicitDefEqProofs [bodyR, Try.f41, argTm, iV, hdd, hw, h1, h2, r1]
        | cons v vs =>
          simp only [List.length_cons] at r1 r2
          have r5 : (us.length + (vs.length + 1) + 1) * 9 ≤ 1099511627776 := by omega
          have r4 : us.length + 1 + (vs.length + 1) = us.length + (vs.length + 1) + 1 := by omega
          cases p <;> simp -implicitDefEqProofs [bodyR, Try.f41, argTm, iV, hdd, hw, h1, h2, r1, r2, r4, r5]
    · simp -implicitDefEqProofs [bodyR, Try.f41, argTm, Tr.enc, encL, iV, leavesS, bV, hdd, ho]

end Go.Ab
