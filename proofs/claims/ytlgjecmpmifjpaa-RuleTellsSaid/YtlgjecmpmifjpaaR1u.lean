/-
  All trees of a set.
-/
import Derived.Test.YtlgjecmpmifjpaaR1s
set_option linter.unusedVariables false
set_option linter.unusedSimpArgs false
namespace Go.Ab
open Go.Proofs

noncomputable def cL2 : Code := loopOf (pc Try.f25 7)
noncomputable def cB3 : Code := blockOf ((seqsC cL2).getD 2 .skip)
noncomputable def cL4 : Code := loopOf ((seqsC cB3).getD 3 .skip)
noncomputable def cB5 : Code := blockOf ((seqsC cL4).getD 2 .skip)
noncomputable def cL6 : Code := loopOf ((seqsC cB5).getD 2 .skip)

def S25 (out : List BT) : List AObj := [.arr (arrT (out.map BT.enc)) (out.map BT.enc) 0]

def FrA (tm : Nat → AV) (s a : Nat) (out : List BT) : Prop := tm 0 = .p (iV s) ∧ tm 5 = .p (iV a) ∧ tm 3 = .own 0 out.length
def FrX (tm : Nat → AV) (s a : Nat) (xs : List PV) (i : Nat) (out : List BT) : Prop := FrA tm s a out ∧ tm 40 = .p (.list xs) ∧ tm 41 = .p (iV xs.length) ∧ tm 42 = .p (iV i)
def FrY (tm : Nat → AV) (s a : Nat) (xs : List PV) (i : Nat) (ys : List PV) (j : Nat) (out : List BT) : Prop := FrX tm s a xs i out ∧ tm 7 = .ptr 1 0 ∧ tm 49 = .p (.list ys) ∧ tm 50 = .p (iV ys.length) ∧ tm 51 = .p (iV j)

theorem arrT_app (l : List PV) (x : PV) : arrT (l ++ [x]) = 24 := by simp [arrT]
theorem S25_nil : S25 [] = [.arr 0 [] 0] := by simp [S25, arrT]

set_option maxHeartbeats 2000000 in
theorem y_go (m : Nat) (x y : BT) (s a i j : Nat) (xs ys : List PV) (out : List BT) (tm : Nat → AV) (hf : FrY tm s a xs i ys j out) (hy : ys[j]? = some y.enc) (hj : j < 100000) (hlen : out.length < 100000) (hm : 0 < m) (ob : Int) (lb : List PV) (hb : x.enc = .agg [.val (.int .i64 ob), .list lb]) :
    ∃ tm' o2 l2, codeA (mkE m 25 false) 64 cL6 ⟨tm, S25 out ++ [Bx ob lb]⟩ = some (.normal, ⟨tm', S25 (out ++ [.jn x y]) ++ [Bx ob lb, Bx o2 l2]⟩) ∧ FrY tm' s a xs i ys (j + 1) (out ++ [.jn x y]) := by
  obtain ⟨⟨⟨f0, f5, f3⟩, f40, f41, f42⟩, f7, f49, f50, f51⟩ := hf
  obtain ⟨m, rfl⟩ : ∃ m', m = m' + 1 := ⟨m - 1, by omega⟩
  obtain ⟨oy, ly, hye⟩ := enc_form y
  obtain ⟨hil, hix⟩ := List.getElem?_eq_some_iff.1 hy
  have hlt : (j : Int) < ys.length := by omega
  have w3 : IntKind.i64.wrap ((j : Int) + 1) = (j : Int) + 1 := wrap_small _ (by omega) (by omega)
  have hj := join_at m x y
  have hroom : (out.length + 1) * 33 ≤ 1099511627776 := by omega
  have hTT : out = [] ∨ arrT (out.map BT.enc) = 24 := by
    cases out with
    | nil => exact .inl rfl
    | cons y ys => right; simp [arrT]
  have key : ∃ tm', codeA (mkE (m + 1) 25 false) 64 cL6 ⟨tm, S25 out ++ [Bx ob lb]⟩ = some (.normal, ⟨tm', S25 (out ++ [.jn x y]) ++ [Bx ob lb, Bx oy ly]⟩) ∧ FrY tm' s a xs i ys (j + 1) (out ++ [.jn x y]) := by
    simp only [iV, Bx, S25, hb, hye, enc_jn, List.cons_append, List.nil_append] at f0 f5 f3 f40 f41 f42 f7 f49 f50 f51 hj hix ⊢
    simp -implicitDefEqProofs [cL6, cB5, cL4, cB3, cL2, loopOf, blockOf, pc, pcs, seqsC, Try.f25, f0, f5, f3, f40, f41, f42, f7, f49, f50, f51, hil, hix, w3, hj, hroom, hTT, FrY, FrX, FrA, iV, arrT_app, hb, hye, enc_jn]
  obtain ⟨tm', e1, e2⟩ := key
  exact ⟨tm', oy, ly, e1, e2⟩

theorem y_end (m : Nat) (s a i : Nat) (xs ys : List PV) (out : List BT) (tm : Nat → AV) (ob : Int) (lb : List PV) (hf : FrY tm s a xs i ys ys.length out) :
    ∃ tm', codeA (mkE m 25 false) 64 cL6 ⟨tm, S25 out ++ [Bx ob lb]⟩ = some (.exit 6, ⟨tm', S25 out ++ [Bx ob lb]⟩) ∧ FrX tm' s a xs i out := by
  obtain ⟨⟨⟨f0, f5, f3⟩, f40, f41, f42⟩, f7, f49, f50, f51⟩ := hf
  simp only [iV, Bx, S25] at f0 f5 f3 f40 f41 f42 f7 f49 f50 f51 ⊢
  simp -implicitDefEqProofs [cL6, cB5, cL4, cB3, cL2, loopOf, blockOf, pc, pcs, seqsC, Try.f25, f0, f5, f3, f40, f41, f42, f7, f49, f50, f51, FrX, FrA, iV]

theorem y_gc {tm : Nat → AV} {s a i j : Nat} {xs ys : List PV} {out : List BT} {ob o2 : Int} {lb l2 : List PV} (hf : FrY tm s a xs i ys j out) : ∃ tm', gcA 2 ⟨tm, S25 out ++ [Bx ob lb, Bx o2 l2]⟩ = ⟨tm', S25 out ++ [Bx ob lb]⟩ ∧ FrY tm' s a xs i ys j out := by
  obtain ⟨⟨⟨f0, f5, f3⟩, f40, f41, f42⟩, f7, f49, f50, f51⟩ := hf
  refine ⟨fun t => cleanA 2 (tm t), by simp [gcA, S25, Bx], ⟨⟨?_, ?_, ?_⟩, ?_, ?_, ?_⟩, ?_, ?_, ?_, ?_⟩ <;> simp [f0, f5, f3, f40, f41, f42, f7, f49, f50, f51, iV]

theorem y_loop (m : Nat) (x : BT) (s a i : Nat) (xs : List PV) (hm : 0 < m) (ob : Int) (lb : List PV) (hb : x.enc = .agg [.val (.int .i64 ob), .list lb]) (ys : List BT) :
    ∀ (r pre out : List BT), ys = pre ++ r → ys.length < 100000 → out.length + r.length < 100000 → ∀ k, r.length < k → ∀ tm, FrY tm s a xs i (ys.map BT.enc) pre.length out →
      ∃ tm', loopA true (codeA (mkE m 25 false) 64 cL6) k ⟨tm, S25 out ++ [Bx ob lb]⟩ = some (.exit 6, ⟨tm', S25 (out ++ r.map (BT.jn x)) ++ [Bx ob lb]⟩) ∧ FrX tm' s a xs i (out ++ r.map (BT.jn x))
  | [], pre, out, hl, hlen, ho, k, hk, tm, hf => by
    obtain ⟨k', rfl⟩ : ∃ k', k = k' + 1 := ⟨k - 1, by simp at hk; omega⟩
    have hpl : pre.length = (ys.map BT.enc).length := by rw [hl]; simp
    rw [hpl] at hf
    obtain ⟨tm', e1, e2⟩ := y_end m s a i xs _ out tm ob lb hf
    rw [loopA_succ, e1, loopK_exit]
    exact ⟨tm', by simp, by simpa using e2⟩
  | y :: r, pre, out, hl, hlen, ho, k, hk, tm, hf => by
    obtain ⟨k', rfl⟩ : ∃ k', k = k' + 1 := ⟨k - 1, by simp at hk; omega⟩
    have hy : (ys.map BT.enc)[pre.length]? = some y.enc := by rw [hl]; simp
    have hpl : pre.length < 100000 := by rw [hl] at hlen; simp at hlen; omega
    simp only [List.length_cons] at ho
    obtain ⟨tm1, o2, l2, e1, e2⟩ := y_go m x y s a i pre.length xs _ out tm hf hy hpl (by omega) hm ob lb hb
    rw [loopA_succ, e1, loopK_normal, if_pos rfl]
    obtain ⟨tm2, g1, g2⟩ := y_gc (ob := ob) (lb := lb) (o2 := o2) (l2 := l2) e2
    have hlen1 : List.length (ASt.mk tm (S25 out ++ [Bx ob lb])).st = 2 := rfl
    rw [hlen1, g1]
    have := y_loop m x s a i xs hm ob lb hb ys r (pre ++ [y]) (out ++ [.jn x y]) (by rw [hl]; simp) hlen (by simp; omega) k' (by simp at hk; omega) tm2 (by simpa using g2)
    simpa using this

theorem sL4 : seqsC cL4 = [(seqsC cL4).getD 0 .skip, (seqsC cL4).getD 1 .skip, (seqsC cL4).getD 2 .skip, (seqsC cL4).getD 3 .skip] := by rfl
theorem sB5 : seqsC cB5 = [(seqsC cB5).getD 0 .skip, (seqsC cB5).getD 1 .skip, (seqsC cB5).getD 2 .skip] := by rfl
theorem bL4 : (seqsC cL4).getD 2 .skip = .block 5 cB5 := by rfl
theorem bB5 : (seqsC cB5).getD 2 .skip = .block 6 (.loop cL6) := by rfl

set_option maxHeartbeats 2000000 in
theorem x_go (m : Nat) (x : BT) (s a i : Nat) (xs : List PV) (ys out : List BT) (tm : Nat → AV) (hf : FrX tm s a xs i out) (hx : xs[i]? = some x.enc) (hi : i < 100000) (has : a < s ∧ s < 16) (hys : ys.length < 100000) (hlen : out.length + ys.length < 100000) (hm : ys.length < m)
    (hA : prA TP HT m 25 [iV ((s - a : Nat) : Int)] = some (.p (.list (ys.map BT.enc)))) :
    ∃ tm' ox lx, codeA (mkE m 25 false) 64 cL4 ⟨tm, S25 out⟩ = some (.normal, ⟨tm', S25 (out ++ ys.map (BT.jn x)) ++ [Bx ox lx]⟩) ∧ FrX tm' s a xs (i + 1) (out ++ ys.map (BT.jn x)) := by
  obtain ⟨⟨f0, f5, f3⟩, f40, f41, f42⟩ := hf
  obtain ⟨ox, lx, hxe⟩ := enc_form x
  obtain ⟨hil, hix⟩ := List.getElem?_eq_some_iff.1 hx
  have hlt : (i : Int) < xs.length := by omega
  have w3 : IntKind.i64.wrap ((i : Int) + 1) = (i : Int) + 1 := wrap_small _ (by omega) (by omega)
  have w5 : IntKind.i64.wrap ((s : Int) - (a : Int)) = ((s - a : Nat) : Int) := by rw [wrap_small _ (by omega) (by omega)]; omega
  have hp1 : ∃ tm1, runS (mkE m 25 false) 64 [(seqsC cL4).getD 0 .skip, (seqsC cL4).getD 1 .skip] ⟨tm, S25 out⟩ = some (.normal, ⟨tm1, S25 out⟩) ∧ FrX tm1 s a xs i out := by
    simp only [iV, S25] at f0 f5 f3 f40 f41 f42 ⊢
    simp -implicitDefEqProofs [runS, cL6, cB5, cL4, cB3, cL2, loopOf, blockOf, pc, pcs, seqsC, Try.f25, f0, f5, f3, f40, f41, f42, hil, FrX, FrA, iV]
  obtain ⟨tm1, hp1, ⟨⟨f0, f5, f3⟩, f40, f41, f42⟩⟩ := hp1
  have hp2 : ∃ tm2, runS (mkE m 25 false) 64 [(seqsC cB5).getD 0 .skip, (seqsC cB5).getD 1 .skip] ⟨tm1, S25 out⟩ = some (.normal, ⟨tm2, S25 out ++ [Bx ox lx]⟩) ∧ FrY tm2 s a xs i (ys.map BT.enc) 0 out := by
    rw [hxe] at hix
    generalize ys.map BT.enc = Y at *
    simp only [iV, S25, Bx] at f0 f5 f3 f40 f41 f42 hA ⊢
    simp -implicitDefEqProofs [runS, cL6, cB5, cL4, cB3, cL2, loopOf, blockOf, pc, pcs, seqsC, Try.f25, f0, f5, f3, f40, f41, f42, hil, hix, hxe, w5, hA, FrY, FrX, FrA, iV]
  obtain ⟨tm2, hp2, hf2⟩ := hp2
  obtain ⟨tm3, e1, e2⟩ := y_loop m x s a i xs (by omega) ox lx hxe ys ys [] out rfl hys hlen m hm tm2 hf2
  obtain ⟨⟨f0, f5, f3⟩, f40, f41, f42⟩ := e2
  have hp3 : ∃ tm4, runS (mkE m 25 false) 64 [(seqsC cL4).getD 3 .skip] ⟨tm3, S25 (out ++ ys.map (BT.jn x)) ++ [Bx ox lx]⟩ = some (.normal, ⟨tm4, S25 (out ++ ys.map (BT.jn x)) ++ [Bx ox lx]⟩) ∧ FrX tm4 s a xs (i + 1) (out ++ ys.map (BT.jn x)) := by
    generalize out ++ ys.map (BT.jn x) = O at *
    simp only [iV, S25] at f0 f5 f3 f40 f41 f42 ⊢
    simp -implicitDefEqProofs [runS, cL6, cB5, cL4, cB3, cL2, loopOf, blockOf, pc, pcs, seqsC, Try.f25, f0, f5, f3, f40, f41, f42, w3, FrX, FrA, iV]
  obtain ⟨tm4, hp3, hf4⟩ := hp3
  refine ⟨tm4, ox, lx, ?_, hf4⟩
  have hgc : (!(mkE m 25 false).H.keep (mkE m 25 false).fid) = true := by simp
  have hK : (mkE m 25 false).K = m := rfl
  have hB : codeA (mkE m 25 false) 64 (.block 5 cB5) ⟨tm1, S25 out⟩ = some (.normal, ⟨tm3, S25 (out ++ ys.map (BT.jn x)) ++ [Bx ox lx]⟩) := by
    have split2 : ∀ (a b : Code) (r : List Code) (s : ASt), runS (mkE m 25 false) 64 (a :: b :: r) s = seqR (runS (mkE m 25 false) 64 [a, b] s) (runS (mkE m 25 false) 64 r) := fun a b r s => runS_app _ _ [_, _] r s
    rw [codeA_block, runS_seqs, sB5, split2, hp2, seqR_normal, runS, bB5, codeA_block, codeA_loop, hgc, hK, e1]
    simp [runS]
  have split2 : ∀ (a b : Code) (r : List Code) (s : ASt), runS (mkE m 25 false) 64 (a :: b :: r) s = seqR (runS (mkE m 25 false) 64 [a, b] s) (runS (mkE m 25 false) 64 r) := fun a b r s => runS_app _ _ [_, _] r s
  rw [runS_seqs, sL4, split2, hp1, seqR_normal, runS, bL4, hB, seqR_normal, hp3]

end Go.Ab
