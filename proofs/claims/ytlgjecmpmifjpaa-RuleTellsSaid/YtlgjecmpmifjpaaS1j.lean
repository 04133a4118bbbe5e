/-
  The document's Close.
-/
import Derived.Test.YtlgjecmpmifjpaaS1i
set_option linter.unusedVariables false
set_option linter.unusedSimpArgs false
namespace Go.Ab
open Go.Proofs

set_option maxHeartbeats 1000000 in
theorem has_at (m : Nat) (l : List BT) (t : BT) (hl : l.length < 100000) (hm : l.length < m) (h : ∀ x ∈ l, prA TP HT m 17 [x.enc, t.enc] = some (.p (bV (decide (x = t))))) : prA TP HT (m + 1) 22 [.list (l.map BT.enc), t.enc] = some (.p (bV (decide (t ∈ l)))) := by
  obtain ⟨o, L, ht⟩ := enc_form t
  have hnt : Try.f22.ntmps = 20 := rfl
  have hbp := bodyR_pcs m 22 Try.f22 [.p (.list (l.map BT.enc)), .p t.enc] [] rfl (by rw [hnt]; show 2 ≤ 20; omega) (by decide)
  have hp : ∃ tm1, runS (mkE m 22 false) 20 [pc Try.f22 0, pc Try.f22 1] ⟨argTm [.p (.list (l.map BT.enc)), .p t.enc], []⟩ = some (.normal, ⟨tm1, [.box [.p (.val (.int .i64 o)), .p (.list L)]]⟩) ∧ Fr22 tm1 (l.map BT.enc) 0 := by
    simp -implicitDefEqProofs [runS, pc, pcs, seqsC, Try.f22, argTm, ht, iV, Fr22]
  obtain ⟨tm1, hp, hf⟩ := hp
  obtain ⟨tm2, e1, e2⟩ := has_loop m t o L ht l h l [] rfl hl m hm tm1 hf
  have split2 : ∀ (r : List Code) (s : ASt), runS (mkE m 22 false) 20 (pc Try.f22 0 :: pc Try.f22 1 :: r) s = seqR (runS (mkE m 22 false) 20 [pc Try.f22 0, pc Try.f22 1] s) (runS (mkE m 22 false) 20 r) := fun r s => runS_app _ _ [_, _] r s
  have hgc : (!(mkE m 22 false).H.keep (mkE m 22 false).fid) = true := by simp
  have hK : (mkE m 22 false).K = m := rfl
  rw [pr_run fn22]
  simp only [List.map] at hbp ⊢
  rw [hbp, pcs22, hnt, split2, hp, seqR_normal, runS, pc2_22, codeA_block, codeA_loop, hgc, hK, e1]
  by_cases hm : t ∈ l
  · have e2 := e2 hm
    simp only [bV] at e2 ⊢
    simp -implicitDefEqProofs [runS, pc, pcs, seqsC, Try.f22, hm, e2]
  · simp -implicitDefEqProofs [runS, pc, pcs, seqsC, Try.f22, hm, bV]

theorem has_uni : ∃ N, ∀ m, N ≤ m → ∀ (l : List BT) (t : BT), (∀ x ∈ l, x ∈ A4) → t ∈ A4 → l.length < 100000 → l.length < m → prA TP HT (m + 1) 22 [.list (l.map BT.enc), t.enc] = some (.p (bV (decide (t ∈ l)))) := by
  obtain ⟨N, h⟩ := fin_uni (P := fun x N => ∀ t ∈ A4, ∀ n, N ≤ n → prA TP HT n 17 [x.enc, t.enc] = some (.p (bV (decide (x = t))))) A4 fun x hx => by
    obtain ⟨N, h⟩ := fin_uni (P := fun t N => ∀ n, N ≤ n → prA TP HT n 17 [x.enc, t.enc] = some (.p (bV (decide (x = t))))) A4 fun t ht => by
      obtain ⟨N, h⟩ := rsame_ev x t
      exact ⟨N, fun n hn n' hn' => h n' (by omega)⟩
    exact ⟨N, fun n hn t ht n' hn' => h t ht N (Nat.le_refl _) n' (by omega)⟩
  exact ⟨N, fun m hm l t hl ht h1 h2 => has_at m l t h1 h2 fun x hx => h x (hl x hx) N (Nat.le_refl _) t ht m hm⟩

theorem rnext_uni : ∃ N, ∀ x ∈ A4, ∀ n, N ≤ n → prA TP HT n 19 [x.enc] = some (.p (.list ((eachS x).map BT.enc))) := by
  obtain ⟨N, h⟩ := fin_uni (P := fun x N => ∀ n, N ≤ n → prA TP HT n 19 [x.enc] = some (.p (.list ((eachS x).map BT.enc)))) A4 fun x hx => by
    obtain ⟨mk, hmk, hs, F⟩ := A4_facts hx
    obtain ⟨N, h⟩ := rnext_yes x F.all F.bud
    exact ⟨N, fun n hn n' hn' => h n' (by omega)⟩
  exact ⟨N, fun x hx n hn => h x hx N (Nat.le_refl _) n hn⟩

noncomputable def kL0 : Code := loopOf (pc Try.f21 6)
noncomputable def kB1 : Code := blockOf ((seqsC kL0).getD 2 .skip)
noncomputable def kL2 : Code := loopOf ((seqsC kB1).getD 2 .skip)

def S21 (o : Int) (L : List PV) (out : List BT) (fz : Nat) : List AObj := [Bx o L, .arr 24 (out.map BT.enc) fz]
def FrK (tm : Nat → AV) (out : List BT) (i : Nat) : Prop := tm 4 = .own 1 out.length ∧ tm 5 = .p (iV i)
def FrKi (tm : Nat → AV) (out : List BT) (i : Nat) (X : List PV) (k : Nat) : Prop := FrK tm out i ∧ tm 6 = .p (.list X) ∧ tm 7 = .p (iV k)

theorem pcs21 : pcs Try.f21 = [pc Try.f21 0, pc Try.f21 1, pc Try.f21 2, pc Try.f21 3, pc Try.f21 4, pc Try.f21 5, pc Try.f21 6, pc Try.f21 7, pc Try.f21 8] := by rfl
theorem pc6_21 : pc Try.f21 6 = .block 0 (.loop kL0) := by rfl
theorem sK0 : seqsC kL0 = [(seqsC kL0).getD 0 .skip, (seqsC kL0).getD 1 .skip, (seqsC kL0).getD 2 .skip, (seqsC kL0).getD 3 .skip] := by rfl
theorem sK1 : seqsC kB1 = [(seqsC kB1).getD 0 .skip, (seqsC kB1).getD 1 .skip, (seqsC kB1).getD 2 .skip] := by rfl
theorem bK0 : (seqsC kL0).getD 2 .skip = .block 1 kB1 := by rfl
theorem bK1 : (seqsC kB1).getD 2 .skip = .block 2 (.loop kL2) := by rfl

theorem k_end (m : Nat) (o : Int) (L X : List PV) (out : List BT) (fz i : Nat) (tm : Nat → AV) (hf : FrKi tm out i X X.length) :
    ∃ tm', codeA (mkE m 21 false) 48 kL2 ⟨tm, S21 o L out fz⟩ = some (.exit 2, ⟨tm', S21 o L out fz⟩) ∧ FrK tm' out i := by
  obtain ⟨⟨f4, f5⟩, f6, f7⟩ := hf
  simp only [iV, Bx, S21] at f4 f5 f6 f7 ⊢
  simp -implicitDefEqProofs [kL2, kB1, kL0, loopOf, blockOf, pc, pcs, seqsC, Try.f21, f4, f5, f6, f7, FrK, iV]

set_option maxHeartbeats 2000000 in
theorem k_go (m : Nat) (o : Int) (L X : List PV) (out : List BT) (fz i k : Nat) (x : BT) (tm : Nat → AV) (hf : FrKi tm out i X k) (hx : X[k]? = some x.enc) (hk : k < 100000) (ho : out.length < 100000) (hne : out ≠ [])
    (hh : prA TP HT m 22 [.list (out.map BT.enc), x.enc] = some (.p (bV (decide (x ∈ out))))) :
    ∃ tm', codeA (mkE m 21 false) 48 kL2 ⟨tm, S21 o L out fz⟩ = some (.normal, ⟨tm', S21 o L (addS out x) out.length⟩) ∧ FrKi tm' (addS out x) i X (k + 1) := by
  obtain ⟨⟨f4, f5⟩, f6, f7⟩ := hf
  have w3 : IntKind.i64.wrap ((k : Int) + 1) = (k : Int) + 1 := wrap_small _ (by omega) (by omega)
  obtain ⟨hil, hix⟩ := List.getElem?_eq_some_iff.1 hx
  obtain ⟨o1, l1, h1⟩ := enc_form x
  have hroom : (out.length + 1) * 33 ≤ 1099511627776 := by omega
  by_cases hin : x ∈ out
  · have ha : addS out x = out := by simp [addS, hin]
    rw [ha]
    rw [decide_eq_true hin] at hh
    simp only [iV, bV, Bx, S21, h1] at f4 f5 f6 f7 hh hix ⊢
    simp -implicitDefEqProofs [kL2, kB1, kL0, loopOf, blockOf, pc, pcs, seqsC, Try.f21, f4, f5, f6, f7, hil, hix, w3, hh, FrKi, FrK, iV, bV]
  · have ha : addS out x = out ++ [x] := by simp [addS, hin]
    rw [ha]
    rw [decide_eq_false hin] at hh
    simp only [iV, bV, Bx, S21, h1] at f4 f5 f6 f7 hh hix ⊢
    simp -implicitDefEqProofs [kL2, kB1, kL0, loopOf, blockOf, pc, pcs, seqsC, Try.f21, f4, f5, f6, f7, hil, hix, w3, hh, FrKi, FrK, iV, bV, hroom, h1, hne]

theorem gcKi {tm : Nat → AV} {o : Int} {L X : List PV} {out : List BT} {fz i k : Nat} (hf : FrKi tm out i X k) : ∃ tm', gcA 2 ⟨tm, S21 o L out fz⟩ = ⟨tm', S21 o L out fz⟩ ∧ FrKi tm' out i X k := by
  obtain ⟨⟨f4, f5⟩, f6, f7⟩ := hf
  refine ⟨fun t => cleanA 2 (tm t), by simp [gcA, Bx, S21], ⟨?_, ?_⟩, ?_, ?_⟩ <;> simp [f4, f5, f6, f7, iV]
theorem gcK {tm : Nat → AV} {o : Int} {L : List PV} {out : List BT} {fz i : Nat} (hf : FrK tm out i) : ∃ tm', gcA 2 ⟨tm, S21 o L out fz⟩ = ⟨tm', S21 o L out fz⟩ ∧ FrK tm' out i := by
  obtain ⟨f4, f5⟩ := hf
  refine ⟨fun t => cleanA 2 (tm t), by simp [gcA, Bx, S21], ?_, ?_⟩ <;> simp [f4, f5, iV]

theorem k_loop (m : Nat) (o : Int) (L : List PV) (i : Nat) (l : List BT) (hl4 : ∀ x ∈ l, x ∈ A4) (hh : ∀ (out : List BT) (t : BT), (∀ x ∈ out, x ∈ A4) → t ∈ A4 → out.length < 100000 → out.length < m → prA TP HT (m + 1) 22 [.list (out.map BT.enc), t.enc] = some (.p (bV (decide (t ∈ out))))) :
    ∀ (r pre out : List BT) (fz : Nat), l = pre ++ r → l.length < 10000 → out ≠ [] → (∀ x ∈ out, x ∈ A4) → out.length + r.length < 10000 → out.length + r.length < m → ∀ k, r.length < k → ∀ tm, FrKi tm out i (l.map BT.enc) pre.length →
      ∃ tm' fz', loopA true (codeA (mkE (m + 1) 21 false) 48 kL2) k ⟨tm, S21 o L out fz⟩ = some (.exit 2, ⟨tm', S21 o L (addAll out r) fz'⟩) ∧ FrK tm' (addAll out r) i
  | [], pre, out, fz, hl, hlen, hne, hA, ho, hm, k, hk, tm, hf => by
    obtain ⟨k', rfl⟩ : ∃ k', k = k' + 1 := ⟨k - 1, by simp at hk; omega⟩
    have hpl : pre.length = (l.map BT.enc).length := by rw [hl]; simp
    rw [hpl] at hf
    obtain ⟨tm', e1, e2⟩ := k_end (m + 1) o L _ out fz i tm hf
    rw [loopA_succ, e1, loopK_exit]
    exact ⟨tm', fz, rfl, e2⟩
  | x :: r, pre, out, fz, hl, hlen, hne, hA, ho, hm, k, hk, tm, hf => by
    obtain ⟨k', rfl⟩ : ∃ k', k = k' + 1 := ⟨k - 1, by simp at hk; omega⟩
    have hx : (l.map BT.enc)[pre.length]? = some x.enc := by rw [hl]; simp
    have hxA : x ∈ A4 := hl4 x (by rw [hl]; simp)
    have hpl : pre.length < 10000 := by rw [hl] at hlen; simp at hlen; omega
    simp only [List.length_cons] at ho hm
    obtain ⟨tm1, e1, e2⟩ := k_go (m + 1) o L _ out fz i pre.length x tm hf hx (by omega) (by omega) hne (hh out x hA hxA (by omega) (by omega))
    rw [loopA_succ, e1, loopK_normal, if_pos rfl]
    obtain ⟨tm2, g1, g2⟩ := gcKi (o := o) (L := L) (fz := out.length) e2
    have hlen1 : List.length (ASt.mk tm (S21 o L out fz)).st = 2 := rfl
    rw [hlen1, g1]
    have hsl : (addS out x).length ≤ out.length + 1 := by unfold addS; split <;> simp
    have := k_loop m o L i l hl4 hh r (pre ++ [x]) (addS out x) out.length (by rw [hl]; simp) hlen (by unfold addS; split <;> simp [hne]) (fun y hy => by
      unfold addS at hy
      split at hy
      · exact hA y hy
      · rcases List.mem_append.1 hy with h | h
        · exact hA y h
        · simp at h; subst h; exact hxA) (by omega) (by omega) k' (by simp at hk; omega) tm2 (by simpa using g2)
    exact this

theorem a_len : (A4.all fun x => decide ((eachS x).length ≤ 20)) = true := by decide +kernel
theorem each_le {x : BT} (h : x ∈ A4) : (eachS x).length ≤ 20 := by simpa using List.all_eq_true.1 a_len x h

theorem o_end (m : Nat) (o : Int) (L : List PV) (out : List BT) (fz : Nat) (tm : Nat → AV) (hf : FrK tm out out.length) :
    ∃ tm', codeA (mkE m 21 false) 48 kL0 ⟨tm, S21 o L out fz⟩ = some (.exit 0, ⟨tm', S21 o L out fz⟩) ∧ tm' 4 = .own 1 out.length := by
  obtain ⟨f4, f5⟩ := hf
  simp only [iV, Bx, S21] at f4 f5 ⊢
  simp -implicitDefEqProofs [kL2, kB1, kL0, loopOf, blockOf, pc, pcs, seqsC, Try.f21, f4, f5]

set_option maxHeartbeats 2000000 in
theorem o_go (m : Nat) (hm : 20000 < m) (o : Int) (L : List PV) (out : List BT) (fz i : Nat) (x : BT) (tm : Nat → AV) (hf : FrK tm out i) (hx : out[i]? = some x) (ho : out.length < 9000) (hA : ∀ x ∈ out, x ∈ A4)
    (hn : prA TP HT (m + 1) 19 [x.enc] = some (.p (.list ((eachS x).map BT.enc))))
    (hh : ∀ (out : List BT) (t : BT), (∀ x ∈ out, x ∈ A4) → t ∈ A4 → out.length < 100000 → out.length < m → prA TP HT (m + 1) 22 [.list (out.map BT.enc), t.enc] = some (.p (bV (decide (t ∈ out))))) :
    ∃ tm' fz', codeA (mkE (m + 1) 21 false) 48 kL0 ⟨tm, S21 o L out fz⟩ = some (.normal, ⟨tm', S21 o L (addAll out (eachS x)) fz'⟩) ∧ FrK tm' (addAll out (eachS x)) (i + 1) := by
  obtain ⟨f4, f5⟩ := hf
  obtain ⟨hil, hix⟩ := List.getElem?_eq_some_iff.1 hx
  have hxA : x ∈ A4 := hA x (List.mem_of_getElem? hx)
  obtain ⟨mk, hmk, hxs, F⟩ := A4_facts hxA
  have hne : out ≠ [] := by intro h; subst h; simp at hx
  have hel := each_le hxA
  obtain ⟨o1, l1, h1⟩ := enc_form x
  have w3 : IntKind.i64.wrap ((i : Int) + 1) = (i : Int) + 1 := wrap_small _ (by omega) (by omega)
  have hp1 : ∃ tm1, runS (mkE (m + 1) 21 false) 48 [(seqsC kL0).getD 0 .skip, (seqsC kL0).getD 1 .skip] ⟨tm, S21 o L out fz⟩ = some (.normal, ⟨tm1, S21 o L out fz⟩) ∧ FrK tm1 out i := by
    simp only [iV, Bx, S21] at f4 f5 ⊢
    simp -implicitDefEqProofs [runS, kL2, kB1, kL0, loopOf, blockOf, pc, pcs, seqsC, Try.f21, f4, f5, hil, FrK, iV]
  obtain ⟨tm1, hp1, f4, f5⟩ := hp1
  have hp2 : ∃ tm2, runS (mkE (m + 1) 21 false) 48 [(seqsC kB1).getD 0 .skip, (seqsC kB1).getD 1 .skip] ⟨tm1, S21 o L out fz⟩ = some (.normal, ⟨tm2, S21 o L out fz⟩) ∧ FrKi tm2 out i ((eachS x).map BT.enc) 0 := by
    generalize (eachS x).map BT.enc = X at *
    rw [h1] at hn
    simp only [iV, Bx, S21] at f4 f5 ⊢
    simp -implicitDefEqProofs [runS, kL2, kB1, kL0, loopOf, blockOf, pc, pcs, seqsC, Try.f21, f4, f5, hil, hix, h1, hn, FrKi, FrK, iV]
  obtain ⟨tm2, hp2, hf2⟩ := hp2
  obtain ⟨tm3, fz', e1, f4, f5⟩ := k_loop m o L i (eachS x) (fun y hy => mem_A4.2 ⟨mk, hmk, F.next y hy⟩) hh (eachS x) [] out fz rfl (by omega) hne hA (by omega) (by omega) (m + 1) (by omega) tm2 hf2
  have hp3 : ∃ tm4, runS (mkE (m + 1) 21 false) 48 [(seqsC kL0).getD 3 .skip] ⟨tm3, S21 o L (addAll out (eachS x)) fz'⟩ = some (.normal, ⟨tm4, S21 o L (addAll out (eachS x)) fz'⟩) ∧ FrK tm4 (addAll out (eachS x)) (i + 1) := by
    generalize addAll out (eachS x) = O at *
    simp only [iV, Bx, S21] at f4 f5 ⊢
    simp -implicitDefEqProofs [runS, kL2, kB1, kL0, loopOf, blockOf, pc, pcs, seqsC, Try.f21, f4, f5, w3, FrK, iV]
  obtain ⟨tm4, hp3, hf4⟩ := hp3
  refine ⟨tm4, fz', ?_, hf4⟩
  have hgc : (!(mkE (m + 1) 21 false).H.keep (mkE (m + 1) 21 false).fid) = true := by simp
  have hK : (mkE (m + 1) 21 false).K = m + 1 := rfl
  have split2 : ∀ (a b : Code) (r : List Code) (s : ASt), runS (mkE (m + 1) 21 false) 48 (a :: b :: r) s = seqR (runS (mkE (m + 1) 21 false) 48 [a, b] s) (runS (mkE (m + 1) 21 false) 48 r) := fun a b r s => runS_app _ _ [_, _] r s
  have hB : codeA (mkE (m + 1) 21 false) 48 (.block 1 kB1) ⟨tm1, S21 o L out fz⟩ = some (.normal, ⟨tm3, S21 o L (addAll out (eachS x)) fz'⟩) := by
    rw [codeA_block, runS_seqs, sK1, split2, hp2, seqR_normal, runS, bK1, codeA_block, codeA_loop, hgc, hK, e1]
    simp [runS]
  rw [runS_seqs, sK0, split2, hp1, seqR_normal, runS, bK0, hB, seqR_normal, hp3]

theorem o_loop (m : Nat) (hm : 20000 < m) (o : Int) (L : List PV)
    (hn : ∀ x ∈ A4, prA TP HT (m + 1) 19 [x.enc] = some (.p (.list ((eachS x).map BT.enc))))
    (hh : ∀ (out : List BT) (t : BT), (∀ x ∈ out, x ∈ A4) → t ∈ A4 → out.length < 100000 → out.length < m → prA TP HT (m + 1) 22 [.list (out.map BT.enc), t.enc] = some (.p (bV (decide (t ∈ out))))) :
    ∀ (kk : Nat) (out : List BT) (fz i : Nat) (r : List BT) (tm : Nat → AV) (k : Nat), FrK tm out i → i ≤ out.length → closeE kk out i = some r → (∀ b ∈ out, b ∈ A4) → out.length ≤ 20 * (i + 1) → i + kk ≤ 300 → kk ≤ k →
    ∃ tm' fz', loopA true (codeA (mkE (m + 1) 21 false) 48 kL0) k ⟨tm, S21 o L out fz⟩ = some (.exit 0, ⟨tm', S21 o L r fz'⟩) ∧ tm' 4 = .own 1 r.length
  | 0, out, fz, i, r, tm, k, hf, hi, hc, hA, hl, hik, hk => by simp [closeE] at hc
  | kk + 1, out, fz, i, r, tm, k, hf, hi, hc, hA, hl, hik, hk => by
    obtain ⟨k', rfl⟩ : ∃ k', k = k' + 1 := ⟨k - 1, by omega⟩
    simp only [closeE] at hc
    cases hx : out[i]? with
    | none =>
      rw [hx] at hc
      injection hc with hc
      subst hc
      have hle : out.length ≤ i := by simpa using hx
      obtain rfl : i = out.length := by omega
      obtain ⟨tm', e1, e2⟩ := o_end (m + 1) o L out fz tm hf
      rw [loopA_succ, e1, loopK_exit]
      exact ⟨tm', fz, rfl, e2⟩
    | some x =>
      rw [hx] at hc
      have hxA := hA x (List.mem_of_getElem? hx)
      obtain ⟨mk, hmk, hxs, F⟩ := A4_facts hxA
      obtain ⟨tm1, fz', e1, e2⟩ := o_go m hm o L out fz i x tm hf hx (by omega) hA (hn x hxA) hh
      rw [loopA_succ, e1, loopK_normal, if_pos rfl]
      obtain ⟨tm2, g1, g2⟩ := gcK (o := o) (L := L) (fz := fz') e2
      have hlen1 : List.length (ASt.mk tm (S21 o L out fz)).st = 2 := rfl
      rw [hlen1, g1]
      have h1 := addAll_len (eachS x) out
      have h2 := each_le hxA
      have h3 := (List.getElem?_eq_some_iff.1 hx).1
      obtain ⟨q, hq⟩ := addAll_pre (eachS x) out
      refine o_loop m hm o L hn hh kk _ fz' (i + 1) r tm2 k' g2 (by rw [hq]; simp; omega) hc (fun b hb => ?_) (by omega) (by omega) (by omega)
      rcases (addAll_mem _ _ _).1 hb with hb | hb
      · exact hA b hb
      · exact mem_A4.2 ⟨mk, hmk, F.next b hb⟩

end Go.Ab
