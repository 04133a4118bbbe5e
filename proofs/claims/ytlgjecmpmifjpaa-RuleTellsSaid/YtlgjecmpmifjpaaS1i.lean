/-
  The document's Turn, Move, and Next.
-/
import Derived.Test.YtlgjecmpmifjpaaS1f
set_option linter.unusedVariables false
set_option linter.unusedSimpArgs false
namespace Go.Ab
open Go.Proofs

theorem rjoin_at (n : Nat) (a b : BT) : prA TP HT (n + 1) 33 [a.enc, b.enc] = some (.p (BT.jn a b).enc) := by
  obtain ⟨oa, la, ha⟩ := enc_form a
  obtain ⟨ob, lb, hb⟩ := enc_form b
  rw [pr_run fn33]
  simp only [enc_jn, ha, hb]
  simp -implicitDefEqProofs [bodyR, Try.f33, argTm]

theorem rturn_no (t : Tr) (h : mayT t = false) : Ev 14 [t.enc] (.tup [.p zT.enc, .p (bV false)]) := by
  obtain ⟨N, h1⟩ := rmay_ev t
  obtain ⟨o, l, ht⟩ := tr_form t
  refine ⟨N + 1, fun n hn => ?_⟩
  obtain ⟨m, rfl⟩ : ∃ m, n = m + 1 := ⟨n - 1, by omega⟩
  have h1 := h1 m (by omega)
  rw [h] at h1
  rw [pr_run fn14]
  simp only [ht, encz, bV] at h1 ⊢
  simp -implicitDefEqProofs [bodyR, Try.f14, argTm, h1]

theorem rturn_yes (b : BT) (h : b.ok = true) : Ev 14 [b.enc] (.tup [.p (turnS b).1.enc, .p (bV (turnS b).2)]) := by
  obtain ⟨N, h1⟩ := rmay_ev b.tr
  have hbt : b.tr.enc = b.enc := rfl
  have hm : mayT b.tr = true := h
  rw [hbt, hm] at h1
  have hd := dr14
  simp only [regsF, Try.f14, regs, List.map, List.nil_append, List.append_nil, List.cons_append, List.cons.injEq, Prod.mk.injEq, and_true] at hd
  refine ⟨N + 2, fun n hn => ?_⟩
  obtain ⟨m, rfl⟩ : ∃ m, n = m + 1 + 1 := ⟨n - 2, by omega⟩
  have h1 := h1 (m + 1) (by omega)
  cases b with
  | lf i =>
    rw [pr_run fn14]
    simp only [enc_lf, bV, turnS] at h1 ⊢
    simp -implicitDefEqProofs [bodyR, Try.f14, argTm, h1]
  | jn a c =>
    have h2 := rjoin_at m c a
    obtain ⟨oa, la, ha⟩ := enc_form a
    obtain ⟨oc, lc, hc⟩ := enc_form c
    rw [pr_run fn14]
    simp only [enc_jn, ha, hc, bV, turnS] at h1 h2 ⊢
    simp -implicitDefEqProofs [bodyR, Try.f14, argTm, h1, h2, hd.1, hd.2]

theorem rmove_no (t : Tr) (h : mayT t = false) : Ev 16 [t.enc] (.tup [.p zT.enc, .p (bV false)]) := by
  obtain ⟨N, h1⟩ := rmay_ev t
  obtain ⟨o, l, ht⟩ := tr_form t
  refine ⟨N + 1, fun n hn => ?_⟩
  obtain ⟨m, rfl⟩ : ∃ m, n = m + 1 := ⟨n - 1, by omega⟩
  have h1 := h1 m (by omega)
  rw [h] at h1
  rw [pr_run fn16]
  simp only [ht, encz, bV] at h1 ⊢
  simp -implicitDefEqProofs [bodyR, Try.f16, argTm, h1]

set_option maxHeartbeats 1000000 in
theorem rmove_yes (b : BT) (h : b.ok = true) : Ev 16 [b.enc] (.tup [.p (moveS b).1.enc, .p (bV (moveS b).2)]) := by
  obtain ⟨N, h1⟩ := rmay_ev b.tr
  have hbt : b.tr.enc = b.enc := rfl
  have hm : mayT b.tr = true := h
  rw [hbt, hm] at h1
  have hd := dr16
  simp only [regsF, Try.f16, regs, List.map, List.nil_append, List.append_nil, List.cons_append, List.cons.injEq, Prod.mk.injEq, and_true] at hd
  refine ⟨N + 2, fun n hn => ?_⟩
  obtain ⟨m, rfl⟩ : ∃ m, n = m + 1 + 1 := ⟨n - 2, by omega⟩
  have h1 := h1 (m + 1) (by omega)
  match b with
  | .lf i =>
    rw [pr_run fn16]
    simp only [enc_lf, bV, moveS] at h1 ⊢
    simp -implicitDefEqProofs [bodyR, Try.f16, argTm, h1]
  | .jn (.lf i) c =>
    obtain ⟨oc, lc, hc⟩ := enc_form c
    rw [pr_run fn16]
    simp only [enc_jn, enc_lf, hc, bV, moveS] at h1 ⊢
    simp -implicitDefEqProofs [bodyR, Try.f16, argTm, h1]
  | .jn (.jn x y) c =>
    have h2 := rjoin_at m y c
    have h3 := rjoin_at m x (.jn y c)
    obtain ⟨ox, lx, hx⟩ := enc_form x
    obtain ⟨oy, ly, hy⟩ := enc_form y
    obtain ⟨oc, lc, hc⟩ := enc_form c
    rw [pr_run fn16]
    simp only [enc_jn, hx, hy, hc, bV, moveS] at h1 h2 h3 ⊢
    simp -implicitDefEqProofs [bodyR, Try.f16, argTm, h1, h2, h3, hd.1, hd.2]


theorem rnext_none (t : Tr) (hT : Ev 14 [t.enc] (.tup [.p zT.enc, .p (bV false)])) (hM : Ev 16 [t.enc] (.tup [.p zT.enc, .p (bV false)])) : Ev 19 [t.enc] (.p (.list [])) := by
  obtain ⟨N1, h1⟩ := hT
  obtain ⟨N2, h2⟩ := hM
  obtain ⟨o, l, ht⟩ := tr_form t
  refine ⟨N1 + N2 + 1, fun n hn => ?_⟩
  obtain ⟨m, rfl⟩ : ∃ m, n = m + 1 := ⟨n - 1, by omega⟩
  have h1 := h1 m (by omega)
  have h2 := h2 m (by omega)
  rw [pr_run fn19]
  simp only [ht, encz, bV] at h1 h2 ⊢
  simp -implicitDefEqProofs [bodyR, Try.f19, argTm, h1, h2]

def S19 (a c : BT) (out : List BT) (ox oz : Int) (lx lz : List PV) : List AObj := [Bx 0 [a.enc, c.enc], .arr (arrT (out.map BT.enc)) (out.map BT.enc) 0, Bx ox lx, Bx oz lz]

def FrN (tm : Nat → AV) (out : List BT) : Prop := tm 1 = .ptr 0 0 ∧ tm 3 = .own 1 out.length
def FrN1 (tm : Nat → AV) (out : List BT) (X : List PV) (i : Nat) : Prop := FrN tm out ∧ tm 8 = .p (.list X) ∧ tm 9 = .p (iV i)
def FrN2 (tm : Nat → AV) (out : List BT) (X : List PV) (i : Nat) : Prop := FrN tm out ∧ tm 10 = .p (.list X) ∧ tm 11 = .p (iV i)

theorem pcs19 : pcs Try.f19 = [pc Try.f19 0, pc Try.f19 1, pc Try.f19 2, pc Try.f19 3, pc Try.f19 4, pc Try.f19 5, pc Try.f19 6, pc Try.f19 7, pc Try.f19 8, pc Try.f19 9, pc Try.f19 10, pc Try.f19 11, pc Try.f19 12, pc Try.f19 13, pc Try.f19 14, pc Try.f19 15, pc Try.f19 16, pc Try.f19 17] := by rfl
theorem pc12_19 : pc Try.f19 12 = .block 0 (.loop (loopOf (pc Try.f19 12))) := by rfl
theorem pc15_19 : pc Try.f19 15 = .block 2 (.loop (loopOf (pc Try.f19 15))) := by rfl

theorem n1_end (m : Nat) (a c : BT) (out : List BT) (ox oz : Int) (lx lz X : List PV) (tm : Nat → AV) (hf : FrN1 tm out X X.length) :
    ∃ tm', codeA (mkE m 19 false) 82 (loopOf (pc Try.f19 12)) ⟨tm, S19 a c out ox oz lx lz⟩ = some (.exit 0, ⟨tm', S19 a c out ox oz lx lz⟩) ∧ FrN tm' out := by
  obtain ⟨⟨f1, f3⟩, f8, f9⟩ := hf
  simp only [iV, Bx, S19] at f1 f3 f8 f9 ⊢
  simp -implicitDefEqProofs [loopOf, pc, pcs, seqsC, Try.f19, f1, f3, f8, f9, FrN]
theorem n2_end (m : Nat) (a c : BT) (out : List BT) (ox oz : Int) (lx lz X : List PV) (tm : Nat → AV) (hf : FrN2 tm out X X.length) :
    ∃ tm', codeA (mkE m 19 false) 82 (loopOf (pc Try.f19 15)) ⟨tm, S19 a c out ox oz lx lz⟩ = some (.exit 2, ⟨tm', S19 a c out ox oz lx lz⟩) ∧ FrN tm' out := by
  obtain ⟨⟨f1, f3⟩, f8, f9⟩ := hf
  simp only [iV, Bx, S19] at f1 f3 f8 f9 ⊢
  simp -implicitDefEqProofs [loopOf, pc, pcs, seqsC, Try.f19, f1, f3, f8, f9, FrN]

theorem arrT_or (out : List BT) : out = [] ∨ arrT (out.map BT.enc) = 24 := by
  cases out with
  | nil => exact .inl rfl
  | cons y ys => right; simp [arrT]

set_option maxHeartbeats 2000000 in
theorem n1_go (m : Nat) (a c x : BT) (out : List BT) (ox oz : Int) (lx lz X : List PV) (i : Nat) (tm : Nat → AV) (hf : FrN1 tm out X i) (hx : X[i]? = some x.enc) (hi : i < 100000) (ho : out.length < 100000) :
    ∃ tm', codeA (mkE (m + 1) 19 false) 82 (loopOf (pc Try.f19 12)) ⟨tm, S19 a c out ox oz lx lz⟩ = some (.normal, ⟨tm', S19 a c (out ++ [.jn x c]) ox oz lx lz⟩) ∧ FrN1 tm' (out ++ [.jn x c]) X (i + 1) := by
  obtain ⟨⟨f1, f3⟩, f8, f9⟩ := hf
  obtain ⟨hil, hix⟩ := List.getElem?_eq_some_iff.1 hx
  have w3 : IntKind.i64.wrap ((i : Int) + 1) = (i : Int) + 1 := wrap_small _ (by omega) (by omega)
  have hj := rjoin_at m x c
  have hroom : (out.length + 1) * 33 ≤ 1099511627776 := by omega
  have hTT := arrT_or out
  obtain ⟨oc, lc, hc⟩ := enc_form c
  obtain ⟨o1, l1, h1⟩ := enc_form x
  obtain ⟨oa, la, ha⟩ := enc_form a
  have hd := dr19
  simp only [regsF, Try.f19, regs, List.map, List.nil_append, List.append_nil, List.cons_append, List.cons.injEq, Prod.mk.injEq, and_true] at hd
  simp only [iV, Bx, S19, hc, h1, ha, enc_jn] at f1 f3 f8 f9 hj hix ⊢
  simp -implicitDefEqProofs [loopOf, pc, pcs, seqsC, Try.f19, f1, f3, f8, f9, hil, hix, w3, hj, hroom, hTT, FrN1, FrN, iV, arrT_app, hc, h1, enc_jn, hd.1.1, hd.1.2, hd.2.1, hd.2.2]

set_option maxHeartbeats 2000000 in
theorem n2_go (m : Nat) (a c x : BT) (out : List BT) (ox oz : Int) (lx lz X : List PV) (i : Nat) (tm : Nat → AV) (hf : FrN2 tm out X i) (hx : X[i]? = some x.enc) (hi : i < 100000) (ho : out.length < 100000) :
    ∃ tm', codeA (mkE (m + 1) 19 false) 82 (loopOf (pc Try.f19 15)) ⟨tm, S19 a c out ox oz lx lz⟩ = some (.normal, ⟨tm', S19 a c (out ++ [.jn a x]) ox oz lx lz⟩) ∧ FrN2 tm' (out ++ [.jn a x]) X (i + 1) := by
  obtain ⟨⟨f1, f3⟩, f8, f9⟩ := hf
  obtain ⟨hil, hix⟩ := List.getElem?_eq_some_iff.1 hx
  have w3 : IntKind.i64.wrap ((i : Int) + 1) = (i : Int) + 1 := wrap_small _ (by omega) (by omega)
  have hj := rjoin_at m a x
  have hroom : (out.length + 1) * 33 ≤ 1099511627776 := by omega
  have hTT := arrT_or out
  obtain ⟨oc, lc, hc⟩ := enc_form c
  obtain ⟨o1, l1, h1⟩ := enc_form x
  obtain ⟨oa, la, ha⟩ := enc_form a
  have hd := dr19
  simp only [regsF, Try.f19, regs, List.map, List.nil_append, List.append_nil, List.cons_append, List.cons.injEq, Prod.mk.injEq, and_true] at hd
  simp only [iV, Bx, S19, hc, h1, ha, enc_jn] at f1 f3 f8 f9 hj hix ⊢
  simp -implicitDefEqProofs [loopOf, pc, pcs, seqsC, Try.f19, f1, f3, f8, f9, hil, hix, w3, hj, hroom, hTT, FrN2, FrN, iV, arrT_app, ha, h1, enc_jn, hd.1.1, hd.1.2, hd.2.1, hd.2.2]

theorem n1_gc {tm : Nat → AV} {a c : BT} {out : List BT} {ox oz : Int} {lx lz X : List PV} {i : Nat} (hf : FrN1 tm out X i) : ∃ tm', gcA 4 ⟨tm, S19 a c out ox oz lx lz⟩ = ⟨tm', S19 a c out ox oz lx lz⟩ ∧ FrN1 tm' out X i := by
  obtain ⟨⟨f1, f3⟩, f8, f9⟩ := hf
  refine ⟨fun t => cleanA 4 (tm t), by simp [gcA, S19, Bx], ⟨?_, ?_⟩, ?_, ?_⟩ <;> simp [f1, f3, f8, f9, iV]
theorem n2_gc {tm : Nat → AV} {a c : BT} {out : List BT} {ox oz : Int} {lx lz X : List PV} {i : Nat} (hf : FrN2 tm out X i) : ∃ tm', gcA 4 ⟨tm, S19 a c out ox oz lx lz⟩ = ⟨tm', S19 a c out ox oz lx lz⟩ ∧ FrN2 tm' out X i := by
  obtain ⟨⟨f1, f3⟩, f8, f9⟩ := hf
  refine ⟨fun t => cleanA 4 (tm t), by simp [gcA, S19, Bx], ⟨?_, ?_⟩, ?_, ?_⟩ <;> simp [f1, f3, f8, f9, iV]

theorem n1_loop (m : Nat) (a c : BT) (ox oz : Int) (lx lz : List PV) (l : List BT) :
    ∀ (r pre out : List BT), l = pre ++ r → l.length < 100000 → out.length + r.length < 100000 → ∀ k, r.length < k → ∀ tm, FrN1 tm out (l.map BT.enc) pre.length →
      ∃ tm', loopA true (codeA (mkE (m + 1) 19 false) 82 (loopOf (pc Try.f19 12))) k ⟨tm, S19 a c out ox oz lx lz⟩ = some (.exit 0, ⟨tm', S19 a c (out ++ r.map (fun x => BT.jn x c)) ox oz lx lz⟩) ∧ FrN tm' (out ++ r.map (fun x => BT.jn x c))
  | [], pre, out, hl, hlen, ho, k, hk, tm, hf => by
    obtain ⟨k', rfl⟩ : ∃ k', k = k' + 1 := ⟨k - 1, by simp at hk; omega⟩
    have hpl : pre.length = (l.map BT.enc).length := by rw [hl]; simp
    rw [hpl] at hf
    obtain ⟨tm', e1, e2⟩ := n1_end (m + 1) a c out ox oz lx lz _ tm hf
    rw [loopA_succ, e1, loopK_exit]
    exact ⟨tm', by simp, by simpa using e2⟩
  | x :: r, pre, out, hl, hlen, ho, k, hk, tm, hf => by
    obtain ⟨k', rfl⟩ : ∃ k', k = k' + 1 := ⟨k - 1, by simp at hk; omega⟩
    have hx : (l.map BT.enc)[pre.length]? = some x.enc := by rw [hl]; simp
    have hpl : pre.length < 100000 := by rw [hl] at hlen; simp at hlen; omega
    simp only [List.length_cons] at ho
    obtain ⟨tm1, e1, e2⟩ := n1_go m a c x out ox oz lx lz _ pre.length tm hf hx hpl (by omega)
    rw [loopA_succ, e1, loopK_normal, if_pos rfl]
    obtain ⟨tm2, g1, g2⟩ := n1_gc (a := a) (c := c) (ox := ox) (oz := oz) (lx := lx) (lz := lz) e2
    have hlen1 : List.length (ASt.mk tm (S19 a c out ox oz lx lz)).st = 4 := rfl
    rw [hlen1, g1]
    have := n1_loop m a c ox oz lx lz l r (pre ++ [x]) (out ++ [.jn x c]) (by rw [hl]; simp) hlen (by simp; omega) k' (by simp at hk; omega) tm2 (by simpa using g2)
    simpa using this

theorem n2_loop (m : Nat) (a c : BT) (ox oz : Int) (lx lz : List PV) (l : List BT) :
    ∀ (r pre out : List BT), l = pre ++ r → l.length < 100000 → out.length + r.length < 100000 → ∀ k, r.length < k → ∀ tm, FrN2 tm out (l.map BT.enc) pre.length →
      ∃ tm', loopA true (codeA (mkE (m + 1) 19 false) 82 (loopOf (pc Try.f19 15))) k ⟨tm, S19 a c out ox oz lx lz⟩ = some (.exit 2, ⟨tm', S19 a c (out ++ r.map (BT.jn a)) ox oz lx lz⟩) ∧ FrN tm' (out ++ r.map (BT.jn a))
  | [], pre, out, hl, hlen, ho, k, hk, tm, hf => by
    obtain ⟨k', rfl⟩ : ∃ k', k = k' + 1 := ⟨k - 1, by simp at hk; omega⟩
    have hpl : pre.length = (l.map BT.enc).length := by rw [hl]; simp
    rw [hpl] at hf
    obtain ⟨tm', e1, e2⟩ := n2_end (m + 1) a c out ox oz lx lz _ tm hf
    rw [loopA_succ, e1, loopK_exit]
    exact ⟨tm', by simp, by simpa using e2⟩
  | x :: r, pre, out, hl, hlen, ho, k, hk, tm, hf => by
    obtain ⟨k', rfl⟩ : ∃ k', k = k' + 1 := ⟨k - 1, by simp at hk; omega⟩
    have hx : (l.map BT.enc)[pre.length]? = some x.enc := by rw [hl]; simp
    have hpl : pre.length < 100000 := by rw [hl] at hlen; simp at hlen; omega
    simp only [List.length_cons] at ho
    obtain ⟨tm1, e1, e2⟩ := n2_go m a c x out ox oz lx lz _ pre.length tm hf hx hpl (by omega)
    rw [loopA_succ, e1, loopK_normal, if_pos rfl]
    obtain ⟨tm2, g1, g2⟩ := n2_gc (a := a) (c := c) (ox := ox) (oz := oz) (lx := lx) (lz := lz) e2
    have hlen1 : List.length (ASt.mk tm (S19 a c out ox oz lx lz)).st = 4 := rfl
    rw [hlen1, g1]
    have := n2_loop m a c ox oz lx lz l r (pre ++ [x]) (out ++ [.jn a x]) (by rw [hl]; simp) hlen (by simp; omega) k' (by simp at hk; omega) tm2 (by simpa using g2)
    simpa using this


set_option maxHeartbeats 8000000 in
theorem rnext_yes : ∀ (b : BT), okAll b = true → bud b ≤ 1000 → Ev 19 [b.enc] (.p (.list ((eachS b).map BT.enc)))
  | .lf i, h, hb => rnext_none (BT.lf i).tr (rturn_yes (.lf i) (okAll_ok h)) (rmove_yes (.lf i) (okAll_ok h))
  | .jn a c, h, hb => by
    have hk : okAll a = true ∧ okAll c = true := by
      simp only [okAll, Bool.and_eq_true] at h
      exact ⟨h.1.2, h.2⟩
    have hbb : bud a ≤ 1000 ∧ bud c ≤ 1000 := by
      simp only [bud] at hb
      omega
    obtain ⟨N1, h1⟩ := rturn_yes (.jn a c) (okAll_ok h)
    obtain ⟨N2, h2⟩ := rmove_yes (.jn a c) (okAll_ok h)
    obtain ⟨N3, h3⟩ := rnext_yes a hk.1 hbb.1
    obtain ⟨N4, h4⟩ := rnext_yes c hk.2 hbb.2
    have la := eachS_len a
    have lc := eachS_len c
    obtain ⟨z, has, hzs⟩ : ∃ z has, moveS (.jn a c) = (z, has) := ⟨_, _, rfl⟩
    have ht1 : turnS (.jn a c) = (.jn c a, true) := rfl
    rw [hzs] at h2
    rw [ht1] at h1
    have hE : eachS (.jn a c) = ((.jn c a :: (if has then [z] else [])) ++ (eachS a).map (fun x => BT.jn x c)) ++ (eachS c).map (BT.jn a) := by
      simp [eachS, hzs]
    obtain ⟨ox, lx, hxe⟩ := enc_form (.jn c a)
    obtain ⟨oz, lz, hze⟩ := enc_form z
    obtain ⟨oa, ka, hae⟩ := enc_form a
    obtain ⟨oc, kc, hce⟩ := enc_form c
    generalize hF : BT.jn c a :: (if has then [z] else []) = F at hE
    have hFl : F.length ≤ 2 := by rw [← hF]; cases has <;> simp
    refine ⟨N1 + N2 + N3 + N4 + 2100, fun n hn => ?_⟩
    obtain ⟨m, rfl⟩ : ∃ m, n = m + 1 + 1 := ⟨n - 2, by omega⟩
    have h1 := h1 (m + 1) (by omega)
    have h2 := h2 (m + 1) (by omega)
    have h3 := h3 (m + 1) (by omega)
    have h4 := h4 (m + 1) (by omega)
    have hnt : Try.f19.ntmps = 82 := rfl
    have hbp := bodyR_pcs (m + 1) 19 Try.f19 [.p (BT.jn a c).enc] [] rfl (by rw [hnt]; show 1 ≤ 82; omega) (by decide)
    have hp1 : ∃ tm1, runS (mkE (m + 1) 19 false) 82 [pc Try.f19 0, pc Try.f19 1, pc Try.f19 2, pc Try.f19 3, pc Try.f19 4, pc Try.f19 5, pc Try.f19 6, pc Try.f19 7, pc Try.f19 8, pc Try.f19 9, pc Try.f19 10, pc Try.f19 11] ⟨argTm [.p (BT.jn a c).enc], []⟩ = some (.normal, ⟨tm1, S19 a c F ox oz lx lz⟩) ∧ FrN1 tm1 F ((eachS a).map BT.enc) 0 := by
      have hce' := hce
      generalize (eachS a).map BT.enc = X at *
      have hxe' := hxe
      rw [hxe] at h1
      rw [hze] at h2
      rw [enc_jn, hae, hce] at h1 h2
      rw [hae] at h3
      rw [enc_jn, hae, hce]
      subst hF
      cases has <;>
      · simp only [bV, Bx, S19, hae, hce] at h1 h2 h3 ⊢
        simp -implicitDefEqProofs [runS, pc, pcs, seqsC, Try.f19, argTm, h1, h2, h3, hxe, hze, FrN1, FrN, iV, bV, arrT]
    obtain ⟨tm1, hp1, hf1⟩ := hp1
    obtain ⟨tm2, e1, f1, f3⟩ := n1_loop m a c ox oz lx lz (eachS a) (eachS a) [] F rfl (by omega) (by omega) (m + 1) (by omega) tm1 hf1
    have hp2 : ∃ tm3, runS (mkE (m + 1) 19 false) 82 [pc Try.f19 13, pc Try.f19 14] ⟨tm2, S19 a c (F ++ (eachS a).map (fun x => BT.jn x c)) ox oz lx lz⟩ = some (.normal, ⟨tm3, S19 a c (F ++ (eachS a).map (fun x => BT.jn x c)) ox oz lx lz⟩) ∧ FrN2 tm3 (F ++ (eachS a).map (fun x => BT.jn x c)) ((eachS c).map BT.enc) 0 := by
      generalize F ++ (eachS a).map (fun x => BT.jn x c) = O at *
      generalize (eachS c).map BT.enc = X at *
      rw [hce] at h4
      simp only [Bx, S19, hae, hce] at f1 f3 h4 ⊢
      simp -implicitDefEqProofs [runS, pc, pcs, seqsC, Try.f19, f1, f3, h4, FrN2, FrN, iV, bV]
    obtain ⟨tm3, hp2, hf2⟩ := hp2
    obtain ⟨tm4, e2, f1, f3⟩ := n2_loop m a c ox oz lx lz (eachS c) (eachS c) [] (F ++ (eachS a).map (fun x => BT.jn x c)) rfl (by omega) (by simp; omega) (m + 1) (by omega) tm3 hf2
    have hgc : (!(mkE (m + 1) 19 false).H.keep (mkE (m + 1) 19 false).fid) = true := by simp
    have hK : (mkE (m + 1) 19 false).K = m + 1 := rfl
    have split12 : ∀ (r : List Code) (s : ASt), runS (mkE (m + 1) 19 false) 82 (pc Try.f19 0 :: pc Try.f19 1 :: pc Try.f19 2 :: pc Try.f19 3 :: pc Try.f19 4 :: pc Try.f19 5 :: pc Try.f19 6 :: pc Try.f19 7 :: pc Try.f19 8 :: pc Try.f19 9 :: pc Try.f19 10 :: pc Try.f19 11 :: r) s = seqR (runS (mkE (m + 1) 19 false) 82 [pc Try.f19 0, pc Try.f19 1, pc Try.f19 2, pc Try.f19 3, pc Try.f19 4, pc Try.f19 5, pc Try.f19 6, pc Try.f19 7, pc Try.f19 8, pc Try.f19 9, pc Try.f19 10, pc Try.f19 11] s) (runS (mkE (m + 1) 19 false) 82 r) := fun r s => runS_app _ _ [_, _, _, _, _, _, _, _, _, _, _, _] r s
    have split2 : ∀ (a b : Code) (r : List Code) (s : ASt), runS (mkE (m + 1) 19 false) 82 (a :: b :: r) s = seqR (runS (mkE (m + 1) 19 false) 82 [a, b] s) (runS (mkE (m + 1) 19 false) 82 r) := fun a b r s => runS_app _ _ [_, _] r s
    rw [pr_run fn19, hE]
    generalize hO : F ++ (eachS a).map (fun x => BT.jn x c) ++ (eachS c).map (BT.jn a) = O at *
    simp only [List.map] at hbp ⊢
    rw [hbp, pcs19, hnt, split12, hp1, seqR_normal, runS, pc12_19, codeA_block, codeA_loop, hgc, hK, e1, blockR_exit, if_pos rfl, seqR_normal, split2, hp2, seqR_normal, runS, pc15_19, codeA_block, codeA_loop, hgc, hK, e2]
    simp only [S19, Bx]
    simp -implicitDefEqProofs [runS, pc, pcs, seqsC, Try.f19, f1, f3]

end Go.Ab
