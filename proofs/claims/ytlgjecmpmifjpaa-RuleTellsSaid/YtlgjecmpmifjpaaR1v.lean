/-
  All trees of a set: the outer loops.
-/
import Derived.Test.YtlgjecmpmifjpaaR1u
set_option linter.unusedVariables false
set_option linter.unusedSimpArgs false
namespace Go.Ab
open Go.Proofs

def joinAll (xs ys : List BT) : List BT := xs.flatMap fun x => ys.map (BT.jn x)

theorem x_end (m : Nat) (s a : Nat) (xs : List PV) (out : List BT) (tm : Nat → AV) (hf : FrX tm s a xs xs.length out) :
    ∃ tm', codeA (mkE m 25 false) 64 cL4 ⟨tm, S25 out⟩ = some (.exit 4, ⟨tm', S25 out⟩) ∧ FrA tm' s a out := by
  obtain ⟨⟨f0, f5, f3⟩, f40, f41, f42⟩ := hf
  simp only [iV, S25] at f0 f5 f3 f40 f41 f42 ⊢
  simp -implicitDefEqProofs [cL6, cB5, cL4, cB3, cL2, loopOf, blockOf, pc, pcs, seqsC, Try.f25, f0, f5, f3, f40, f41, f42, FrX, FrA, iV]

theorem x_gc {tm : Nat → AV} {s a i : Nat} {xs : List PV} {out : List BT} {ob : Int} {lb : List PV} (hf : FrX tm s a xs i out) : ∃ tm', gcA 1 ⟨tm, S25 out ++ [Bx ob lb]⟩ = ⟨tm', S25 out⟩ ∧ FrX tm' s a xs i out := by
  obtain ⟨⟨f0, f5, f3⟩, f40, f41, f42⟩ := hf
  refine ⟨fun t => cleanA 1 (tm t), by simp [gcA, S25, Bx], ⟨?_, ?_, ?_⟩, ?_, ?_, ?_⟩ <;> simp [f0, f5, f3, f40, f41, f42, iV]

theorem x_loop (m : Nat) (s a : Nat) (xs ys : List BT) (has : a < s ∧ s < 16) (hys : ys.length < 1000) (hm : ys.length < m) (hA : prA TP HT m 25 [iV ((s - a : Nat) : Int)] = some (.p (.list (ys.map BT.enc)))) :
    ∀ (r pre out : List BT), xs = pre ++ r → xs.length < 1000 → out.length + r.length * ys.length < 50000 → ∀ k, r.length < k → ∀ tm, FrX tm s a (xs.map BT.enc) pre.length out →
      ∃ tm', loopA true (codeA (mkE m 25 false) 64 cL4) k ⟨tm, S25 out⟩ = some (.exit 4, ⟨tm', S25 (out ++ joinAll r ys)⟩) ∧ FrA tm' s a (out ++ joinAll r ys)
  | [], pre, out, hl, hlen, ho, k, hk, tm, hf => by
    obtain ⟨k', rfl⟩ : ∃ k', k = k' + 1 := ⟨k - 1, by simp at hk; omega⟩
    have hpl : pre.length = (xs.map BT.enc).length := by rw [hl]; simp
    rw [hpl] at hf
    obtain ⟨tm', e1, e2⟩ := x_end m s a _ out tm hf
    rw [loopA_succ, e1, loopK_exit]
    exact ⟨tm', by simp [joinAll], by simpa [joinAll] using e2⟩
  | x :: r, pre, out, hl, hlen, ho, k, hk, tm, hf => by
    obtain ⟨k', rfl⟩ : ∃ k', k = k' + 1 := ⟨k - 1, by simp at hk; omega⟩
    have hx : (xs.map BT.enc)[pre.length]? = some x.enc := by rw [hl]; simp
    have hpl : pre.length < 1000 := by rw [hl] at hlen; simp at hlen; omega
    simp only [List.length_cons, Nat.succ_mul] at ho
    obtain ⟨tm1, o2, l2, e1, e2⟩ := x_go m x s a pre.length _ ys out tm hf hx (by omega) has (by omega) (by omega) hm hA
    rw [loopA_succ, e1, loopK_normal, if_pos rfl]
    obtain ⟨tm2, g1, g2⟩ := x_gc (ob := o2) (lb := l2) e2
    have hlen1 : List.length (ASt.mk tm (S25 out)).st = 1 := rfl
    rw [hlen1, g1]
    have := x_loop m s a xs ys has hys hm hA r (pre ++ [x]) (out ++ ys.map (BT.jn x)) (by rw [hl]; simp) hlen (by simp; omega) k' (by simp at hk; omega) tm2 (by simpa using g2)
    simpa [joinAll] using this

theorem sL2 : seqsC cL2 = [(seqsC cL2).getD 0 .skip, (seqsC cL2).getD 1 .skip, (seqsC cL2).getD 2 .skip, (seqsC cL2).getD 3 .skip] := by rfl
theorem sB3 : seqsC cB3 = [(seqsC cB3).getD 0 .skip, (seqsC cB3).getD 1 .skip, (seqsC cB3).getD 2 .skip, (seqsC cB3).getD 3 .skip] := by rfl
theorem bL2 : (seqsC cL2).getD 2 .skip = .block 3 cB3 := by rfl
theorem bB3 : (seqsC cB3).getD 3 .skip = .block 4 (.loop cL4) := by rfl

set_option maxHeartbeats 2000000 in
theorem a_skip (m : Nat) (s a : Nat) (out : List BT) (tm : Nat → AV) (hf : FrA tm s a out) (has : a < s ∧ s < 16) (hne : ¬ (a &&& s = a)) :
    ∃ tm', codeA (mkE m 25 false) 64 cL2 ⟨tm, S25 out⟩ = some (.normal, ⟨tm', S25 out⟩) ∧ FrA tm' s (a + 1) out := by
  obtain ⟨f0, f5, f3⟩ := hf
  have e2 := and16 a (by omega) s (by omega)
  have h1 : ((a : Int) < s) := by omega
  have h2 : ¬ (((a &&& s : Nat) : Int) = a) := by omega
  have w3 : IntKind.i64.wrap ((a : Int) + 1) = (a : Int) + 1 := wrap_small _ (by omega) (by omega)
  simp only [iV, S25] at f0 f5 f3 ⊢
  simp -implicitDefEqProofs [cL6, cB5, cL4, cB3, cL2, loopOf, blockOf, pc, pcs, seqsC, Try.f25, f0, f5, f3, e2, has.1, h2, hne, w3, FrA, iV]

set_option maxHeartbeats 2000000 in
theorem a_go (m : Nat) (s a : Nat) (xs ys out : List BT) (tm : Nat → AV) (hf : FrA tm s a out) (has : a < s ∧ s < 16) (he : a &&& s = a) (hys : ys.length < 1000) (hxs : xs.length < 1000) (ho : out.length + xs.length * ys.length < 50000) (hm : xs.length + ys.length < m)
    (hA : prA TP HT m 25 [iV (a : Int)] = some (.p (.list (xs.map BT.enc)))) (hB : prA TP HT m 25 [iV ((s - a : Nat) : Int)] = some (.p (.list (ys.map BT.enc)))) :
    ∃ tm', codeA (mkE m 25 false) 64 cL2 ⟨tm, S25 out⟩ = some (.normal, ⟨tm', S25 (out ++ joinAll xs ys)⟩) ∧ FrA tm' s (a + 1) (out ++ joinAll xs ys) := by
  obtain ⟨f0, f5, f3⟩ := hf
  have e2 := and16 a (by omega) s (by omega)
  have w3 : IntKind.i64.wrap ((a : Int) + 1) = (a : Int) + 1 := wrap_small _ (by omega) (by omega)
  have hee : (((a &&& s : Nat) : Int) = a) := by omega
  have hp1 : ∃ tm1, runS (mkE m 25 false) 64 [(seqsC cL2).getD 0 .skip, (seqsC cL2).getD 1 .skip] ⟨tm, S25 out⟩ = some (.normal, ⟨tm1, S25 out⟩) ∧ FrA tm1 s a out := by
    simp only [iV, S25] at f0 f5 f3 ⊢
    simp -implicitDefEqProofs [runS, cL6, cB5, cL4, cB3, cL2, loopOf, blockOf, pc, pcs, seqsC, Try.f25, f0, f5, f3, has.1, FrA, iV]
  obtain ⟨tm1, hp1, f0, f5, f3⟩ := hp1
  have hp2 : ∃ tm2, runS (mkE m 25 false) 64 [(seqsC cB3).getD 0 .skip, (seqsC cB3).getD 1 .skip, (seqsC cB3).getD 2 .skip] ⟨tm1, S25 out⟩ = some (.normal, ⟨tm2, S25 out⟩) ∧ FrX tm2 s a (xs.map BT.enc) 0 out := by
    generalize xs.map BT.enc = X at *
    simp only [iV, S25] at f0 f5 f3 hA ⊢
    simp -implicitDefEqProofs [runS, cL6, cB5, cL4, cB3, cL2, loopOf, blockOf, pc, pcs, seqsC, Try.f25, f0, f5, f3, e2, he, hee, hA, FrX, FrA, iV]
  obtain ⟨tm2, hp2, hf2⟩ := hp2
  obtain ⟨tm3, e1, f0, f5, f3⟩ := x_loop m s a xs ys has hys (by omega) hB xs [] out rfl hxs ho m (by omega) tm2 hf2
  have hp3 : ∃ tm4, runS (mkE m 25 false) 64 [(seqsC cL2).getD 3 .skip] ⟨tm3, S25 (out ++ joinAll xs ys)⟩ = some (.normal, ⟨tm4, S25 (out ++ joinAll xs ys)⟩) ∧ FrA tm4 s (a + 1) (out ++ joinAll xs ys) := by
    generalize out ++ joinAll xs ys = O at *
    simp only [iV, S25] at f0 f5 f3 ⊢
    simp -implicitDefEqProofs [runS, cL6, cB5, cL4, cB3, cL2, loopOf, blockOf, pc, pcs, seqsC, Try.f25, f0, f5, f3, w3, FrA, iV]
  obtain ⟨tm4, hp3, hf4⟩ := hp3
  refine ⟨tm4, ?_, hf4⟩
  have hgc : (!(mkE m 25 false).H.keep (mkE m 25 false).fid) = true := by simp
  have hK : (mkE m 25 false).K = m := rfl
  have hBk : codeA (mkE m 25 false) 64 (.block 3 cB3) ⟨tm1, S25 out⟩ = some (.normal, ⟨tm3, S25 (out ++ joinAll xs ys)⟩) := by
    have split3 : ∀ (a b c : Code) (r : List Code) (s : ASt), runS (mkE m 25 false) 64 (a :: b :: c :: r) s = seqR (runS (mkE m 25 false) 64 [a, b, c] s) (runS (mkE m 25 false) 64 r) := fun a b c r s => runS_app _ _ [_, _, _] r s
    rw [codeA_block, runS_seqs, sB3, split3, hp2, seqR_normal, runS, bB3, codeA_block, codeA_loop, hgc, hK, e1]
    simp [runS]
  have split2 : ∀ (a b : Code) (r : List Code) (s : ASt), runS (mkE m 25 false) 64 (a :: b :: r) s = seqR (runS (mkE m 25 false) 64 [a, b] s) (runS (mkE m 25 false) 64 r) := fun a b r s => runS_app _ _ [_, _] r s
  rw [runS_seqs, sL2, split2, hp1, seqR_normal, runS, bL2, hBk, seqR_normal, hp3]

theorem a_end (m : Nat) (s : Nat) (out : List BT) (tm : Nat → AV) (hf : FrA tm s s out) :
    ∃ tm', codeA (mkE m 25 false) 64 cL2 ⟨tm, S25 out⟩ = some (.exit 2, ⟨tm', S25 out⟩) ∧ FrA tm' s s out := by
  obtain ⟨f0, f5, f3⟩ := hf
  simp only [iV, S25] at f0 f5 f3 ⊢
  simp -implicitDefEqProofs [cL6, cB5, cL4, cB3, cL2, loopOf, blockOf, pc, pcs, seqsC, Try.f25, f0, f5, f3, FrA, iV]

theorem a_gc {tm : Nat → AV} {s a : Nat} {out : List BT} (hf : FrA tm s a out) : ∃ tm', gcA 1 ⟨tm, S25 out⟩ = ⟨tm', S25 out⟩ ∧ FrA tm' s a out := by
  obtain ⟨f0, f5, f3⟩ := hf
  refine ⟨fun t => cleanA 1 (tm t), by simp [gcA, S25], ?_, ?_, ?_⟩ <;> simp [f0, f5, f3, iV]

def outA (A : Nat → List BT) (s : Nat) : Nat → Nat → List BT → List BT
  | 0, _, out => out
  | d + 1, a, out => outA A s d (a + 1) (if a &&& s = a then out ++ joinAll (A a) (A (s - a)) else out)

theorem joinAll_len (xs ys : List BT) : (joinAll xs ys).length = xs.length * ys.length := by
  unfold joinAll
  induction xs with
  | nil => simp
  | cons x xs ih => simp [ih, Nat.succ_mul]; omega

theorem a_loop (m : Nat) (s : Nat) (hs : s < 16) (A : Nat → List BT) (hA : ∀ a, 1 ≤ a → a < s → prA TP HT m 25 [iV (a : Int)] = some (.p (.list ((A a).map BT.enc)))) (hl : ∀ a, 1 ≤ a → a < s → (A a).length ≤ 50) (hm : 1000 < m) :
    ∀ (d a : Nat) (out : List BT), a + d = s → 1 ≤ a → out.length + 2500 * d < 45000 → ∀ k, d < k → ∀ tm, FrA tm s a out →
      ∃ tm', loopA true (codeA (mkE m 25 false) 64 cL2) k ⟨tm, S25 out⟩ = some (.exit 2, ⟨tm', S25 (outA A s d a out)⟩) ∧ FrA tm' s s (outA A s d a out)
  | 0, a, out, hd, h1, ho, k, hk, tm, hf => by
    obtain ⟨k', rfl⟩ : ∃ k', k = k' + 1 := ⟨k - 1, by omega⟩
    obtain rfl : a = s := by omega
    obtain ⟨tm', e1, e2⟩ := a_end m a out tm hf
    rw [loopA_succ, e1, loopK_exit]
    exact ⟨tm', rfl, e2⟩
  | d + 1, a, out, hd, h1, ho, k, hk, tm, hf => by
    obtain ⟨k', rfl⟩ : ∃ k', k = k' + 1 := ⟨k - 1, by omega⟩
    have hlen1 : List.length (ASt.mk tm (S25 out)).st = 1 := rfl
    by_cases he : a &&& s = a
    · have l1 := hl a h1 (by omega)
      have l2 := hl (s - a) (by omega) (by omega)
      have l3 : (A a).length * (A (s - a)).length ≤ 50 * 50 := Nat.mul_le_mul l1 l2
      obtain ⟨tm1, e1, e2⟩ := a_go m s a (A a) (A (s - a)) out tm hf ⟨by omega, hs⟩ he (by omega) (by omega) (by omega) (by omega) (hA a h1 (by omega)) (hA (s - a) (by omega) (by omega))
      rw [loopA_succ, e1, loopK_normal, if_pos rfl]
      obtain ⟨tm2, g1, g2⟩ := a_gc e2
      rw [hlen1, g1]
      have := a_loop m s hs A hA hl hm d (a + 1) (out ++ joinAll (A a) (A (s - a))) (by omega) (by omega) (by simp [joinAll_len]; omega) k' (by omega) tm2 g2
      simpa [outA, he] using this
    · obtain ⟨tm1, e1, e2⟩ := a_skip m s a out tm hf ⟨by omega, hs⟩ he
      rw [loopA_succ, e1, loopK_normal, if_pos rfl]
      obtain ⟨tm2, g1, g2⟩ := a_gc e2
      rw [hlen1, g1]
      have := a_loop m s hs A hA hl hm d (a + 1) out (by omega) (by omega) (by omega) k' (by omega) tm2 g2
      simpa [outA, he] using this

end Go.Ab
