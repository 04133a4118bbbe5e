/-
  RuleAll.
-/
import Derived.Test.YtlgjecmpmifjpaaS1a
set_option linter.unusedVariables false
set_option linter.unusedSimpArgs false
namespace Go.Ab
open Go.Proofs

set_option maxHeartbeats 2000000 in
theorem all_uni : ∀ S : Nat, S ≤ 15 → ∃ N, ∀ s, 1 ≤ s → s ≤ S → ∀ n, N ≤ n → prA TP HT n 25 [iV s] = some (.p (.list ((allT s).map BT.enc)))
  | 0, _ => ⟨0, fun s h1 h2 => by omega⟩
  | S + 1, hS => by
    obtain ⟨N, h⟩ := all_uni S (by omega)
    refine ⟨N + 2000, fun s h1 h2 n hn => ?_⟩
    by_cases hs : s ≤ S
    · exact h s h1 hs n (by omega)
    · obtain ⟨m, rfl⟩ : ∃ m, n = m + 9 + 1 := ⟨n - 10, by omega⟩
      obtain ⟨tm1, hp, hf⟩ := all_start m s h1 (by omega)
      have hlf : (leafs s).length ≤ 1 := by unfold leafs; (repeat' split) <;> simp
      obtain ⟨tm2, e1, e2⟩ := a_loop (m + 9) s (by omega) allT (fun a ha1 ha2 => h a ha1 (by omega) (m + 9) (by omega)) (fun a ha1 ha2 => allT_len ha1 (by omega)) (by omega) (s - 1) 1 (leafs s) (by omega) (by omega) (by omega) (m + 9) (by omega) tm1 hf
      rw [← allT_eq h1 (by omega)] at e1 e2
      obtain ⟨f0, f5, f3⟩ := e2
      have hnt : Try.f25.ntmps = 64 := rfl
      have hbp := bodyR_pcs (m + 9) 25 Try.f25 [.p (iV s)] [] rfl (by rw [hnt]; show 1 ≤ 64; omega) (by decide)
      have hgc : (!(mkE (m + 9) 25 false).H.keep (mkE (m + 9) 25 false).fid) = true := by simp
      have hK : (mkE (m + 9) 25 false).K = m + 9 := rfl
      have split7 : ∀ (r : List Code) (s : ASt), runS (mkE (m + 9) 25 false) 64 (pc Try.f25 0 :: pc Try.f25 1 :: pc Try.f25 2 :: pc Try.f25 3 :: pc Try.f25 4 :: pc Try.f25 5 :: pc Try.f25 6 :: r) s = seqR (runS (mkE (m + 9) 25 false) 64 [pc Try.f25 0, pc Try.f25 1, pc Try.f25 2, pc Try.f25 3, pc Try.f25 4, pc Try.f25 5, pc Try.f25 6] s) (runS (mkE (m + 9) 25 false) 64 r) := fun r s => runS_app _ _ [_, _, _, _, _, _, _] r s
      rw [pr_run fn25]
      simp only [List.map] at hbp ⊢
      rw [hbp, pcs25, hnt, split7, hp, seqR_normal, runS, pc7_25, codeA_block, codeA_loop, hgc, hK, e1]
      simp only [S25]
      simp -implicitDefEqProofs [runS, pc, pcs, seqsC, Try.f25, f0, f5, f3]

theorem all_ev (s : Nat) (h1 : 1 ≤ s) (h2 : s ≤ 15) : Ev 25 [iV s] (.p (.list ((allT s).map BT.enc))) := by
  obtain ⟨N, h⟩ := all_uni 15 (by omega)
  exact ⟨N, fun n hn => h s h1 h2 n hn⟩

/-- What stands at the head of RuleAll's loop. -/
def Fr7 (tm : Nat → AV) (C X : List PV) (i : Nat) : Prop := tm 4 = .p (.list C) ∧ tm 5 = .p (.list X) ∧ tm 6 = .p (iV i)

theorem pcs7 : pcs Try.f7 = [pc Try.f7 0, pc Try.f7 1, pc Try.f7 2, pc Try.f7 3, pc Try.f7 4, pc Try.f7 5, pc Try.f7 6, pc Try.f7 7, pc Try.f7 8, pc Try.f7 9, pc Try.f7 10, pc Try.f7 11] := by rfl
theorem pc9_7 : pc Try.f7 9 = .block 0 (.loop (loopOf (pc Try.f7 9))) := by rfl

theorem lb7_end (m : Nat) (o : Int) (L C X : List PV) (i : Nat) (tm : Nat → AV) (hf : Fr7 tm C X i) (hx : X.length ≤ i) :
    ∃ tm', codeA (mkE m 7 false) 46 (loopOf (pc Try.f7 9)) ⟨tm, [Bx o L]⟩ = some (.exit 0, ⟨tm', [Bx o L]⟩) := by
  obtain ⟨f4, f5, f6⟩ := hf
  have h1 : ¬ (i < X.length) := by omega
  simp only [iV, Bx] at *
  simp -implicitDefEqProofs [loopOf, pc, pcs, seqsC, Try.f7, f4, f5, f6, h1]

set_option maxHeartbeats 2000000 in
theorem lb7_go (m : Nat) (o o1 : Int) (L l1 C X : List PV) (i : Nat) (tm : Nat → AV) (hf : Fr7 tm C X i) (hx : X[i]? = some (.agg [.val (.int .i64 o1), .list l1])) (hi : i < 10000000)
    (hhas : prA TP HT m 22 [.list C, .agg [.val (.int .i64 o1), .list l1]] = some (.p (bV true))) :
    ∃ tm', codeA (mkE m 7 false) 46 (loopOf (pc Try.f7 9)) ⟨tm, [Bx o L]⟩ = some (.normal, ⟨tm', [Bx o L]⟩) ∧ Fr7 tm' C X (i + 1 : Nat) := by
  obtain ⟨f4, f5, f6⟩ := hf
  obtain ⟨hil, hix⟩ := List.getElem?_eq_some_iff.1 hx
  have w3 : IntKind.i64.wrap ((i : Int) + 1) = (i : Int) + 1 := wrap_small _ (by omega) (by omega)
  simp only [iV, bV, Bx] at *
  simp -implicitDefEqProofs [loopOf, pc, pcs, seqsC, Try.f7, f4, f5, f6, hil, hix, w3, hhas, Fr7, iV, bV]

theorem gc7 {tm : Nat → AV} {o : Int} {L C X : List PV} {i : Nat} (hf : Fr7 tm C X i) : ∃ tm', gcA 1 ⟨tm, [Bx o L]⟩ = ⟨tm', [Bx o L]⟩ ∧ Fr7 tm' C X i := by
  obtain ⟨f4, f5, f6⟩ := hf
  refine ⟨fun t => cleanA 1 (tm t), by simp [gcA, Bx], ?_, ?_, ?_⟩ <;> simp [f4, f5, f6, iV]

theorem all_loop (m : Nat) (o : Int) (L C : List PV) (l : List BT)
    (hhas : ∀ x ∈ l, prA TP HT m 22 [.list C, x.enc] = some (.p (bV true))) :
    ∀ (r pre : List BT), l = pre ++ r → l.length < 100000 → ∀ k, r.length < k → ∀ tm, Fr7 tm C (l.map BT.enc) pre.length →
      ∃ tm', loopA true (codeA (mkE m 7 false) 46 (loopOf (pc Try.f7 9))) k ⟨tm, [Bx o L]⟩ = some (.exit 0, ⟨tm', [Bx o L]⟩)
  | [], pre, hl, hlen, k, hk, tm, hf => by
    obtain ⟨k', rfl⟩ : ∃ k', k = k' + 1 := ⟨k - 1, by simp at hk; omega⟩
    obtain ⟨tm', e1⟩ := lb7_end m o L C (l.map BT.enc) pre.length tm hf (by rw [hl]; simp)
    rw [loopA_succ, e1, loopK_exit]
    exact ⟨tm', rfl⟩
  | x :: r, pre, hl, hlen, k, hk, tm, hf => by
    obtain ⟨k', rfl⟩ : ∃ k', k = k' + 1 := ⟨k - 1, by simp at hk; omega⟩
    obtain ⟨o1, l1, hxe⟩ := enc_form x
    have hx : (l.map BT.enc)[pre.length]? = some (.agg [.val (.int .i64 o1), .list l1]) := by rw [hl, ← hxe]; simp
    have hpl : pre.length < 100000 := by rw [hl] at hlen; simp at hlen; omega
    obtain ⟨tm1, e1, e2⟩ := lb7_go m o o1 L l1 C (l.map BT.enc) pre.length tm hf hx (by omega) (hxe ▸ hhas x (by rw [hl]; simp))
    rw [loopA_succ, e1, loopK_normal, if_pos rfl]
    obtain ⟨tm2, g1, g2⟩ := gc7 (o := o) (L := L) e2
    have hlen1 : List.length (ASt.mk tm [Bx o L]).st = 1 := rfl
    rw [hlen1, g1]
    exact all_loop m o L C l hhas r (pre ++ [x]) (by rw [hl]; simp) hlen k' (by simp at hk; omega) tm2 (by simpa using g2)

theorem mask_pos : (masks.all fun m => decide (1 ≤ m) && decide (m ≤ 15)) = true := by decide

set_option maxHeartbeats 4000000 in
theorem ruleAll_ev (t : Tr) : Ev 7 [t.enc] (.p (bV true)) := by
  obtain ⟨N1, h1⟩ := awake_ev
  obtain ⟨N2, h2⟩ := size_ev t 100 (by omega) (by omega)
  obtain ⟨N3, h3⟩ := may_ev t
  obtain ⟨o, l, ht⟩ := tr_form t
  cases hm : mayT t with
  | false =>
    refine ⟨N1 + N2 + N3 + 1, fun n hn => ?_⟩
    obtain ⟨m, rfl⟩ : ∃ m, n = m + 1 := ⟨n - 1, by omega⟩
    have h1 := h1 m (by omega)
    have h2 := h2 m (by omega)
    have h3 := h3 m (by omega)
    rw [pr_run fn7]
    simp only [ht, iV, bV, hm] at h1 h2 h3 ⊢
    by_cases hs : sizeS t 100 > 100
    · simp -implicitDefEqProofs [bodyR, Try.f7, argTm, h1, h2, h3, hs]
    · simp -implicitDefEqProofs [bodyR, Try.f7, argTm, h1, h2, h3, hs]
  | true =>
    obtain ⟨b, rfl, hok, hA⟩ := bt_of_may hm
    obtain ⟨mk, hmk, hbs, F⟩ := A4_facts hA
    have hmp := List.all_eq_true.1 mask_pos mk hmk
    simp only [Bool.and_eq_true, decide_eq_true_eq] at hmp
    obtain ⟨N4, h4⟩ := close_yes hA
    obtain ⟨N5, h5⟩ := setT_ev b.tr
    obtain ⟨N6, h6⟩ := all_ev mk hmp.1 hmp.2
    have cb := close_ok hmk hbs
    have lb := close_len hmk hbs
    obtain ⟨la, sa⟩ := allT_set hmk
    have hbe : b.tr.enc = b.enc := rfl
    rw [setT_in hmk hbs] at h5
    have hsl := set_le hmk
    obtain ⟨N7, h7⟩ := fin_uni (P := fun x N => ∀ n, N ≤ n → prA TP HT n 22 [.list ((closeS b).map BT.enc), x.enc] = some (.p (bV true))) (allT mk) fun x hx => by
      obtain ⟨N, h⟩ := has_ev (closeS b) x (by omega)
      rw [decide_eq_true ((cb.mem x).2 (sa x hx))] at h
      exact ⟨N, fun n hn n' hn' => h n' (by omega)⟩
    refine ⟨N1 + N2 + N3 + N4 + N5 + N6 + N7 + 300, fun n hn => ?_⟩
    obtain ⟨m, rfl⟩ : ∃ m, n = m + 1 := ⟨n - 1, by omega⟩
    have h1 := h1 m (by omega)
    have h2 := h2 m (by omega)
    have h3 := h3 m (by omega)
    have h4 := h4 m (by omega)
    have h5 := h5 m (by omega)
    have h6 := h6 m (by omega)
    have hlen : ((closeS b).map BT.enc).length = ((allT mk).map BT.enc).length := by simp; omega
    by_cases hs : sizeS b.tr 100 > 100
    · rw [pr_run fn7]
      simp only [ht, iV, bV, hm] at h1 h2 h3 ⊢
      simp -implicitDefEqProofs [bodyR, Try.f7, argTm, h1, h2, h3, hs]
    · have hnt : Try.f7.ntmps = 46 := rfl
      have hbp := bodyR_pcs m 7 Try.f7 [.p b.tr.enc] [] rfl (by rw [hnt]; show 1 ≤ 46; omega) (by decide)
      have hgc : (!(mkE m 7 false).H.keep (mkE m 7 false).fid) = true := by simp
      have hK : (mkE m 7 false).K = m := rfl
      have hp : ∃ tm1, runS (mkE m 7 false) 46 [pc Try.f7 0, pc Try.f7 1, pc Try.f7 2, pc Try.f7 3, pc Try.f7 4, pc Try.f7 5, pc Try.f7 6, pc Try.f7 7, pc Try.f7 8] ⟨argTm [.p b.tr.enc], []⟩ = some (.normal, ⟨tm1, [Bx o l]⟩) ∧ Fr7 tm1 ((closeS b).map BT.enc) ((allT mk).map BT.enc) 0 := by
        rw [← hbe, ht] at h4
        clear hbp h7
        generalize (closeS b).map BT.enc = C at *
        generalize (allT mk).map BT.enc = X at *
        simp only [ht, iV, bV, Bx, hm] at h1 h2 h3 h4 h5 h6 ⊢
        simp -implicitDefEqProofs [runS, pc, pcs, seqsC, Try.f7, argTm, h1, h2, h3, h4, h5, h6, hs, hlen, Fr7, iV, bV]
      obtain ⟨tm1, hp, hf⟩ := hp
      obtain ⟨tm2, e1⟩ := all_loop m o l ((closeS b).map BT.enc) (allT mk) (fun x hx => h7 x hx N7 (Nat.le_refl _) m (by omega)) (allT mk) [] rfl (by omega) m (by omega) tm1 hf
      have split9 : ∀ (r : List Code) (s : ASt), runS (mkE m 7 false) 46 (pc Try.f7 0 :: pc Try.f7 1 :: pc Try.f7 2 :: pc Try.f7 3 :: pc Try.f7 4 :: pc Try.f7 5 :: pc Try.f7 6 :: pc Try.f7 7 :: pc Try.f7 8 :: r) s = seqR (runS (mkE m 7 false) 46 [pc Try.f7 0, pc Try.f7 1, pc Try.f7 2, pc Try.f7 3, pc Try.f7 4, pc Try.f7 5, pc Try.f7 6, pc Try.f7 7, pc Try.f7 8] s) (runS (mkE m 7 false) 46 r) := fun r s => runS_app _ _ [_, _, _, _, _, _, _, _, _] r s
      rw [pr_run fn7]
      simp only [List.map] at hbp ⊢
      rw [hbp, pcs7, hnt, split9, hp, seqR_normal, runS, pc9_7, codeA_block, codeA_loop, hgc, hK, e1]
      simp -implicitDefEqProofs [runS, pc, pcs, seqsC, Try.f7, bV]

end Go.Ab
