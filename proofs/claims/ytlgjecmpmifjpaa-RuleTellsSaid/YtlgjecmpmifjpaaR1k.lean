/-
  How many parts a tree has, so many at most.
-/
import Derived.Test.YtlgjecmpmifjpaaR1j
set_option linter.unusedVariables false
set_option linter.unusedSimpArgs false
namespace Go.Ab
open Go.Proofs

mutual
def sizeS : Tr → Int → Int
  | .mk _ l, most => sizeL l most 1
def sizeL : List Tr → Int → Int → Int
  | [], _, n => n
  | t :: r, most, n => if n ≤ most then sizeL r most (n + sizeS t (most - n)) else n
end

mutual
theorem sizeS_bd : ∀ (t : Tr) (most : Int), 1 ≤ sizeS t most ∧ (sizeS t most ≤ 1 ∨ sizeS t most ≤ most + 1)
  | .mk o l, most => by
    simp only [sizeS]
    have := sizeL_bd l most 1 (by omega)
    omega
theorem sizeL_bd : ∀ (l : List Tr) (most n : Int), 1 ≤ n → n ≤ sizeL l most n ∧ (sizeL l most n ≤ n ∨ sizeL l most n ≤ most + 1)
  | [], most, n, h => by simp [sizeL]
  | t :: r, most, n, h => by
    simp only [sizeL]
    split
    · have h1 := sizeS_bd t (most - n)
      have h2 := sizeL_bd r most (n + sizeS t (most - n)) (by omega)
      omega
    · omega
end

def Fr9 (tm : Nat → AV) (most n i : Int) : Prop := tm 1 = .p (iV most) ∧ tm 2 = .ptr 0 0 ∧ tm 5 = .p (iV n) ∧ tm 6 = .p (iV i)

theorem lb9_end (m : Nat) (o : Int) (L : List PV) (most n i : Int) (tm : Nat → AV) (hf : Fr9 tm most n i) (hx : ¬ (i < L.length ∧ n ≤ most)) :
    ∃ tm', codeA (mkE m 9 false) 31 (loopOf (pc Try.f9 3)) ⟨tm, [.box [.p (.val (.int .i64 o)), .p (.list L)]]⟩ = some (.exit 0, ⟨tm', [.box [.p (.val (.int .i64 o)), .p (.list L)]]⟩) ∧ tm' 5 = .p (iV n) := by
  obtain ⟨f1, f2, f5, f6⟩ := hf
  simp only [iV] at *
  by_cases h1 : i < L.length
  · have h2 : ¬ n ≤ most := fun h => hx ⟨h1, h⟩
    simp -implicitDefEqProofs [loopOf, pc, pcs, seqsC, Try.f9, f1, f2, f5, f6, h1, h2]
  · simp -implicitDefEqProofs [loopOf, pc, pcs, seqsC, Try.f9, f1, f2, f5, f6, h1]

set_option maxHeartbeats 1000000 in
theorem lb9_go (m : Nat) (o : Int) (L : List PV) (most n s : Int) (i : Nat) (tm : Nat → AV) (t : Tr) (hf : Fr9 tm most n i) (hx : L[i]? = some t.enc) (hn : n ≤ most) (hb : 1 ≤ n ∧ most ≤ 1000 ∧ 1 ≤ s ∧ s ≤ 1001) (hi : i < 100000)
    (hs : prA TP HT m 9 [t.enc, iV (most - n)] = some (.p (iV s))) :
    ∃ tm', codeA (mkE m 9 false) 31 (loopOf (pc Try.f9 3)) ⟨tm, [.box [.p (.val (.int .i64 o)), .p (.list L)]]⟩ = some (.normal, ⟨tm', [.box [.p (.val (.int .i64 o)), .p (.list L)]]⟩) ∧ Fr9 tm' most (n + s) ((i : Int) + 1) := by
  obtain ⟨f1, f2, f5, f6⟩ := hf
  obtain ⟨ot, lt, ht⟩ := tr_form t
  obtain ⟨hil, hix⟩ := List.getElem?_eq_some_iff.1 hx
  have h1 : (i : Int) < L.length := by omega
  have w1 : IntKind.i64.wrap (most - n) = most - n := wrap_small _ (by omega) (by omega)
  have w2 : IntKind.i64.wrap (n + s) = n + s := wrap_small _ (by omega) (by omega)
  have w3 : IntKind.i64.wrap ((i : Int) + 1) = (i : Int) + 1 := wrap_small _ (by omega) (by omega)
  simp only [iV, ht] at *
  simp -implicitDefEqProofs [loopOf, pc, pcs, seqsC, Try.f9, f1, f2, f5, f6, h1, hn, hil, hix, w1, w2, w3, hs, Fr9, iV]

theorem pc3_9 : pc Try.f9 3 = .block 0 (.loop (loopOf (pc Try.f9 3))) := by rfl
theorem pcs9 : pcs Try.f9 = [pc Try.f9 0, pc Try.f9 1, pc Try.f9 2, pc Try.f9 3, pc Try.f9 4, pc Try.f9 5] := by rfl

theorem gc9 {tm : Nat → AV} {o : Int} {L : List PV} {most n i : Int} (hf : Fr9 tm most n i) : ∃ tm', gcA 1 ⟨tm, [.box [.p (.val (.int .i64 o)), .p (.list L)]]⟩ = ⟨tm', [.box [.p (.val (.int .i64 o)), .p (.list L)]]⟩ ∧ Fr9 tm' most n i := by
  obtain ⟨f1, f2, f5, f6⟩ := hf
  refine ⟨fun t => cleanA 1 (tm t), by simp [gcA], ?_, ?_, ?_, ?_⟩ <;> simp [f1, f2, f5, f6, iV]

mutual
theorem size_ev : ∀ (t : Tr) (most : Int), -1000 ≤ most → most ≤ 1000 → Ev 9 [t.enc, iV most] (.p (iV (sizeS t most)))
  | .mk o l, most, hm1, hm2 => by
    obtain ⟨N, h⟩ := size_list l [] l o most 1 rfl (by omega) hm2 (by omega) (by simp)
    refine ⟨N + l.length + 1100, fun n hn => ?_⟩
    obtain ⟨m, rfl⟩ : ∃ m, n = m + 1 := ⟨n - 1, by omega⟩
    have hnt : Try.f9.ntmps = 31 := rfl
    have hbp := bodyR_pcs m 9 Try.f9 [.p (Tr.mk o l).enc, .p (iV most)] [] rfl (by rw [hnt]; show 2 ≤ 31; omega) (by decide)
    have hp : ∃ tm1, runS (mkE m 9 false) 31 [pc Try.f9 0, pc Try.f9 1, pc Try.f9 2] ⟨argTm [.p (Tr.mk o l).enc, .p (iV most)], []⟩ = some (.normal, ⟨tm1, [.box [.p (.val (.int .i64 o)), .p (.list (encL l))]]⟩) ∧ Fr9 tm1 most 1 0 := by
      simp -implicitDefEqProofs [runS, pc, pcs, seqsC, Try.f9, argTm, Tr.enc, iV, Fr9]
    obtain ⟨tm1, hp, hf⟩ := hp
    obtain ⟨tm2, e1, e2⟩ := h m (by omega) m (by omega) tm1 hf
    have split3 : ∀ (r : List Code) (s : ASt), runS (mkE m 9 false) 31 (pc Try.f9 0 :: pc Try.f9 1 :: pc Try.f9 2 :: r) s = seqR (runS (mkE m 9 false) 31 [pc Try.f9 0, pc Try.f9 1, pc Try.f9 2] s) (runS (mkE m 9 false) 31 r) := fun r s => runS_app _ _ [_, _, _] r s
    have hgc : (!(mkE m 9 false).H.keep (mkE m 9 false).fid) = true := by simp
    have hK : (mkE m 9 false).K = m := rfl
    rw [pr_run fn9]
    simp only [List.map] at hbp ⊢
    rw [hbp, pcs9, hnt, split3, hp, seqR_normal, runS, pc3_9, codeA_block, codeA_loop, hgc, hK, e1]
    simp only [sizeS, iV] at e2 ⊢
    simp -implicitDefEqProofs [runS, pc, pcs, seqsC, Try.f9, e2]
theorem size_list : ∀ (r pre L : List Tr) (o most n : Int), L = pre ++ r → 1 ≤ n → most ≤ 1000 → (n ≤ 1 ∨ n ≤ most + 1) → (pre.length : Int) + 1 ≤ n → ∃ N, ∀ m, N ≤ m → ∀ k, r.length + 1002 - n.toNat ≤ k → ∀ tm, Fr9 tm most n (pre.length : Nat) →
    ∃ tm', loopA true (codeA (mkE m 9 false) 31 (loopOf (pc Try.f9 3))) k ⟨tm, [.box [.p (.val (.int .i64 o)), .p (.list (encL L))]]⟩ = some (.exit 0, ⟨tm', [.box [.p (.val (.int .i64 o)), .p (.list (encL L))]]⟩) ∧ tm' 5 = .p (iV (sizeL r most n))
  | [], pre, L, o, most, n, hL, h1, h2, h3, h4 => by
    refine ⟨0, fun m hm k hk tm hf => ?_⟩
    obtain ⟨k', rfl⟩ : ∃ k', k = k' + 1 := ⟨k - 1, by simp at hk; omega⟩
    obtain ⟨tm', e1, e2⟩ := lb9_end m o (encL L) most n pre.length tm hf (by rw [encL_len, hL]; simp)
    rw [loopA_succ, e1, loopK_exit]
    exact ⟨tm', rfl, by simpa [sizeL] using e2⟩
  | t :: r, pre, L, o, most, n, hL, h1, h2, h3, h4 => by
    by_cases hn : n ≤ most
    · obtain ⟨N1, g1⟩ := size_ev t (most - n) (by omega) (by omega)
      have bd := sizeS_bd t (most - n)
      obtain ⟨N2, g2⟩ := size_list r (pre ++ [t]) L o most (n + sizeS t (most - n)) (by rw [hL]; simp) (by omega) h2 (by omega) (by simp; omega)
      refine ⟨N1 + N2, fun m hm k hk tm hf => ?_⟩
      obtain ⟨k', rfl⟩ : ∃ k', k = k' + 1 := ⟨k - 1, by simp at hk; omega⟩
      have hx : (encL L)[pre.length]? = some t.enc := by
        rw [encL_map, hL]
        simp
      obtain ⟨tm1, e1, e2⟩ := lb9_go m o (encL L) most n (sizeS t (most - n)) pre.length tm t hf hx hn ⟨h1, h2, by omega, by omega⟩ (by omega) (g1 m (by omega))
      rw [loopA_succ, e1, loopK_normal, if_pos rfl]
      obtain ⟨tm2, e3, e4⟩ := gc9 (o := o) (L := encL L) e2
      have hlen : List.length (ASt.mk tm [AObj.box [.p (.val (.int .i64 o)), .p (.list (encL L))]]).st = 1 := rfl
      rw [hlen, e3]
      obtain ⟨tm3, e5, e6⟩ := g2 m (by omega) k' (by simp at hk; omega) tm2 (by simpa using e4)
      refine ⟨tm3, e5, ?_⟩
      simpa [sizeL, hn] using e6
    · refine ⟨0, fun m hm k hk tm hf => ?_⟩
      obtain ⟨k', rfl⟩ : ∃ k', k = k' + 1 := ⟨k - 1, by simp at hk; omega⟩
      obtain ⟨tm', e1, e2⟩ := lb9_end m o (encL L) most n pre.length tm hf (fun h => hn h.2)
      rw [loopA_succ, e1, loopK_exit]
      exact ⟨tm', rfl, by simpa [sizeL, hn] using e2⟩
end

end Go.Ab
