/-
  RuleBack.
-/
import Derived.Test.YtlgjecmpmifjpaaR1n
set_option linter.unusedVariables false
set_option linter.unusedSimpArgs false
namespace Go.Ab
open Go.Proofs

theorem each_ne_ok : (masks.all fun m => (SetL m).all fun b => (eachS b).all fun x => !decide (x = b)) = true := by decide +kernel
theorem each_ne {m : Nat} {b : BT} (hm : m ∈ masks) (hb : b ∈ SetL m) {x : BT} (hx : x ∈ eachS b) : x ≠ b := by
  have := List.all_eq_true.1 (List.all_eq_true.1 (List.all_eq_true.1 each_ne_ok m hm) b hb) x hx
  simpa using this

theorem setT_in {m : Nat} {b : BT} (hm : m ∈ masks) (hb : b ∈ SetL m) : setT b.tr = m := by
  have F := facts hm hb
  have h1 : mayT b.tr = true := okAll_ok F.all
  have h2 := F.msk
  unfold setT
  unfold mayT at h1
  rw [if_pos h1]
  exact h2

def Bx (o : Int) (L : List PV) : AObj := .box [.p (.val (.int .i64 o)), .p (.list L)]

/-- What stands at the head of RuleBack's loop. -/
def Fr6 (tm : Nat → AV) (is has : Bool) (X : List PV) (i : Nat) : Prop := tm 1 = .ptr 0 0 ∧ tm 5 = .p (bV is) ∧ tm 8 = .ptr 3 0 ∧ tm 9 = .p (bV has) ∧ tm 10 = .p (.list X) ∧ tm 11 = .p (iV i)

theorem pcs6 : pcs Try.f6 = [pc Try.f6 0, pc Try.f6 1, pc Try.f6 2, pc Try.f6 3, pc Try.f6 4, pc Try.f6 5, pc Try.f6 6, pc Try.f6 7, pc Try.f6 8, pc Try.f6 9, pc Try.f6 10, pc Try.f6 11, pc Try.f6 12, pc Try.f6 13] := by rfl
theorem pc11_6 : pc Try.f6 11 = .block 0 (.loop (loopOf (pc Try.f6 11))) := by rfl

set_option maxHeartbeats 1000000 in
theorem lb6_end (m : Nat) (o ox oy oz : Int) (L lx ly lz X : List PV) (is has : Bool) (i : Nat) (tm : Nat → AV) (hf : Fr6 tm is has X i) (hx : X.length ≤ i) :
    ∃ tm', codeA (mkE m 6 false) 116 (loopOf (pc Try.f6 11)) ⟨tm, [Bx o L, Bx ox lx, Bx oy ly, Bx oz lz]⟩ = some (.exit 0, ⟨tm', [Bx o L, Bx ox lx, Bx oy ly, Bx oz lz]⟩) ∧ Fr6 tm' is has X i := by
  obtain ⟨f1, f5, f8, f9, f10, f11⟩ := hf
  have h1 : ¬ (i < X.length) := by omega
  simp only [iV, bV, Bx] at *
  simp -implicitDefEqProofs [loopOf, pc, pcs, seqsC, Try.f6, f1, f5, f8, f9, f10, f11, h1, Fr6, iV, bV]

set_option maxHeartbeats 2000000 in
theorem lb6_go (m : Nat) (o ox oy oz o1 : Int) (L lx ly lz X l1 : List PV) (mk : Nat) (is has : Bool) (i : Nat) (tm : Nat → AV) (hf : Fr6 tm is has X i) (hx : X[i]? = some (.agg [.val (.int .i64 o1), .list l1])) (hi : i < 10000000)
    (hmay : prA TP HT m 10 [.agg [.val (.int .i64 o1), .list l1]] = some (.p (bV true)))
    (hset : prA TP HT m 24 [.agg [.val (.int .i64 o1), .list l1]] = some (.p (iV mk)))
    (hset' : prA TP HT m 24 [.agg [.val (.int .i64 o), .list L]] = some (.p (iV mk)))
    (hsame : prA TP HT m 23 [.agg [.val (.int .i64 o1), .list l1], .agg [.val (.int .i64 o), .list L]] = some (.p (bV false))) :
    ∃ tm', codeA (mkE m 6 false) 116 (loopOf (pc Try.f6 11)) ⟨tm, [Bx o L, Bx ox lx, Bx oy ly, Bx oz lz]⟩ = some (.normal, ⟨tm', [Bx o L, Bx ox lx, Bx oy ly, Bx oz lz]⟩) ∧ Fr6 tm' is has X (i + 1 : Nat) := by
  obtain ⟨f1, f5, f8, f9, f10, f11⟩ := hf
  obtain ⟨hil, hix⟩ := List.getElem?_eq_some_iff.1 hx
  have h1 : i < X.length := hil
  have w3 : IntKind.i64.wrap ((i : Int) + 1) = (i : Int) + 1 := wrap_small _ (by omega) (by omega)
  have hd := dr6
  simp only [regsF, Try.f6, regs, List.map, List.nil_append, List.append_nil, List.cons_append, List.cons.injEq, Prod.mk.injEq, and_true] at hd
  simp only [iV, bV, Bx] at *
  simp -implicitDefEqProofs [loopOf, pc, pcs, seqsC, Try.f6, f1, f5, f8, f9, f10, f11, h1, hil, hix, w3, hmay, hset, hset', hsame, Fr6, iV, bV, hd.1.1, hd.1.2, hd.2.1.1, hd.2.1.2, hd.2.2.1, hd.2.2.2]

theorem gc6 {tm : Nat → AV} {o ox oy oz : Int} {L lx ly lz X : List PV} {is has : Bool} {i : Nat} (hf : Fr6 tm is has X i) : ∃ tm', gcA 4 ⟨tm, [Bx o L, Bx ox lx, Bx oy ly, Bx oz lz]⟩ = ⟨tm', [Bx o L, Bx ox lx, Bx oy ly, Bx oz lz]⟩ ∧ Fr6 tm' is has X i := by
  obtain ⟨f1, f5, f8, f9, f10, f11⟩ := hf
  refine ⟨fun t => cleanA 4 (tm t), by simp [gcA, Bx], ?_, ?_, ?_, ?_, ?_, ?_⟩ <;> simp [f1, f5, f8, f9, f10, f11, iV, bV]

theorem back_loop (m : Nat) (o ox oy oz : Int) (L lx ly lz : List PV) (mk : Nat) (is has : Bool) (l : List BT)
    (hset' : prA TP HT m 24 [.agg [.val (.int .i64 o), .list L]] = some (.p (iV mk)))
    (hmay : ∀ x ∈ l, prA TP HT m 10 [x.enc] = some (.p (bV true)))
    (hset : ∀ x ∈ l, prA TP HT m 24 [x.enc] = some (.p (iV mk)))
    (hsame : ∀ x ∈ l, prA TP HT m 23 [x.enc, .agg [.val (.int .i64 o), .list L]] = some (.p (bV false))) :
    ∀ (r pre : List BT), l = pre ++ r → l.length < 100000 → ∀ k, r.length < k → ∀ tm, Fr6 tm is has (l.map BT.enc) pre.length →
      ∃ tm', loopA true (codeA (mkE m 6 false) 116 (loopOf (pc Try.f6 11))) k ⟨tm, [Bx o L, Bx ox lx, Bx oy ly, Bx oz lz]⟩ = some (.exit 0, ⟨tm', [Bx o L, Bx ox lx, Bx oy ly, Bx oz lz]⟩) ∧ Fr6 tm' is has (l.map BT.enc) l.length
  | [], pre, hl, hlen, k, hk, tm, hf => by
    obtain ⟨k', rfl⟩ : ∃ k', k = k' + 1 := ⟨k - 1, by simp at hk; omega⟩
    have hpl : pre.length = l.length := by rw [hl]; simp
    rw [hpl] at hf
    obtain ⟨tm', e1, e2⟩ := lb6_end m o ox oy oz L lx ly lz (l.map BT.enc) is has l.length tm hf (by simp)
    rw [loopA_succ, e1, loopK_exit]
    exact ⟨tm', rfl, e2⟩
  | x :: r, pre, hl, hlen, k, hk, tm, hf => by
    obtain ⟨k', rfl⟩ : ∃ k', k = k' + 1 := ⟨k - 1, by simp at hk; omega⟩
    obtain ⟨o1, l1, hxe⟩ := enc_form x
    have hx : (l.map BT.enc)[pre.length]? = some (.agg [.val (.int .i64 o1), .list l1]) := by rw [hl, ← hxe]; simp
    have hpl : pre.length < 100000 := by rw [hl] at hlen; simp at hlen; omega
    have hxl : x ∈ l := by rw [hl]; simp
    obtain ⟨tm1, e1, e2⟩ := lb6_go m o ox oy oz o1 L lx ly lz (l.map BT.enc) l1 mk is has pre.length tm hf hx (by omega) (hxe ▸ hmay x hxl) (hxe ▸ hset x hxl) hset' (hxe ▸ hsame x hxl)
    rw [loopA_succ, e1, loopK_normal, if_pos rfl]
    obtain ⟨tm2, g1, g2⟩ := gc6 (o := o) (L := L) (ox := ox) (oy := oy) (oz := oz) (lx := lx) (ly := ly) (lz := lz) e2
    have hlen1 : List.length (ASt.mk tm [Bx o L, Bx ox lx, Bx oy ly, Bx oz lz]).st = 4 := rfl
    rw [hlen1, g1]
    exact back_loop m o ox oy oz L lx ly lz mk is has l hset' hmay hset hsame r (pre ++ [x]) (by rw [hl]; simp) hlen k' (by simp at hk; omega) tm2 (by simpa using g2)

set_option maxHeartbeats 4000000 in
theorem back_none (t : Tr) (hT : Ev 13 [t.enc] (.tup [.p zT.enc, .p (bV false)])) (hM : Ev 15 [t.enc] (.tup [.p zT.enc, .p (bV false)])) (hN : Ev 11 [t.enc] (.p (.list []))) : Ev 6 [t.enc] (.p (bV true)) := by
  obtain ⟨N1, h1⟩ := awake_ev
  obtain ⟨N2, h2⟩ := size_ev t 100 (by omega) (by omega)
  obtain ⟨N3, h3⟩ := hT
  obtain ⟨N4, h4⟩ := hM
  obtain ⟨N5, h5⟩ := hN
  obtain ⟨N6, h6⟩ := Turn_yes zT (by decide)
  obtain ⟨o, l, ht⟩ := tr_form t
  have hd := dr6
  simp only [regsF, Try.f6, regs, List.map, List.nil_append, List.append_nil, List.cons_append, List.cons.injEq, Prod.mk.injEq, and_true] at hd
  refine ⟨N1 + N2 + N3 + N4 + N5 + N6 + 9, fun n hn => ?_⟩
  obtain ⟨m, rfl⟩ : ∃ m, n = m + 9 := ⟨n - 9, by omega⟩
  have h1 := h1 (m + 8) (by omega)
  have h2 := h2 (m + 8) (by omega)
  have h3 := h3 (m + 8) (by omega)
  have h4 := h4 (m + 8) (by omega)
  have h5 := h5 (m + 8) (by omega)
  have h6 := h6 (m + 8) (by omega)
  have hz : turnS zT = (.lf 0, false) := rfl
  have hz0 : (BT.lf 0).enc = zT.enc := rfl
  rw [hz] at h6
  simp only [hz0] at h6
  rw [pr_run fn6]
  simp only [ht, encz, iV, bV] at h1 h2 h3 h4 h5 h6 ⊢
  by_cases hs : sizeS t 100 > 100
  · simp -implicitDefEqProofs [bodyR, Try.f6, argTm, h1, h2, hs]
  · simp -implicitDefEqProofs [bodyR, Try.f6, argTm, h1, h2, h3, h4, h5, h6, hs, hd.1.1, hd.1.2, hd.2.1.1, hd.2.1.2, hd.2.2.1, hd.2.2.2]

set_option maxHeartbeats 8000000 in
theorem back_some (a c : BT) (mk : Nat) (hmk : mk ∈ masks) (hbs : .jn a c ∈ SetL mk) : Ev 6 [(BT.jn a c).enc] (.p (bV true)) := by
  have F := facts hmk hbs
  have hok : (BT.jn a c).ok = true := okAll_ok F.all
  have hxn : BT.jn c a ∈ eachS (.jn a c) := by simp [eachS]
  have hxs := F.next _ hxn
  have Fx := facts hmk hxs
  have hxok : (BT.jn c a).ok = true := okAll_ok Fx.all
  obtain ⟨N1, h1⟩ := awake_ev
  obtain ⟨N2, h2⟩ := size_ev (BT.jn a c).tr 100 (by omega) (by omega)
  obtain ⟨N3, h3⟩ := Turn_yes (.jn a c) hok
  obtain ⟨N4, h4⟩ := Move_yes (.jn a c) hok
  obtain ⟨N5, h5⟩ := next_yes (.jn a c) F.all F.bud
  obtain ⟨N6, h6⟩ := Turn_yes (.jn c a) hxok
  obtain ⟨N7, h7⟩ := same_ev (.jn a c) (.jn a c)
  obtain ⟨N8, h8⟩ := same_ev (.jn c a) (.jn a c)
  obtain ⟨N9, h9⟩ := setT_ev (BT.jn a c).tr
  obtain ⟨N10, h10⟩ := fin_uni (P := fun x N => ∀ n, N ≤ n → (prA TP HT n 10 [x.enc] = some (.p (bV true)) ∧ prA TP HT n 24 [x.enc] = some (.p (iV mk))) ∧ prA TP HT n 23 [x.enc, (BT.jn a c).enc] = some (.p (bV false))) (eachS (.jn a c)) fun x hx => by
    have hxs := F.next x hx
    have hok : mayT x.tr = true := okAll_ok (facts hmk hxs).all
    obtain ⟨M1, q1⟩ := may_ev x.tr
    obtain ⟨M2, q2⟩ := setT_ev x.tr
    obtain ⟨M3, q3⟩ := same_ev x (.jn a c)
    rw [hok] at q1
    rw [setT_in hmk hxs] at q2
    rw [decide_eq_false (each_ne hmk hbs hx)] at q3
    exact ⟨M1 + M2 + M3, fun n hn n' hn' => ⟨⟨q1 n' (by omega), q2 n' (by omega)⟩, q3 n' (by omega)⟩⟩
  have hne : BT.jn c a ≠ .jn a c := each_ne hmk hbs hxn
  have hbt : (BT.jn a c).tr.enc = (BT.jn a c).enc := rfl
  obtain ⟨z, has, hzs⟩ : ∃ z has, moveS (.jn a c) = (z, has) := ⟨_, _, rfl⟩
  rw [hzs] at h4
  have hzn : has = true → z ∈ eachS (.jn a c) := by
    intro hh
    subst hh
    simp [eachS, hzs]
  obtain ⟨o, L, ht⟩ := enc_form (.jn a c)
  obtain ⟨ox, lx, hxe⟩ := enc_form (.jn c a)
  obtain ⟨oz, lz, hze⟩ := enc_form z
  have hd := dr6
  simp only [regsF, Try.f6, regs, List.map, List.nil_append, List.append_nil, List.cons_append, List.cons.injEq, Prod.mk.injEq, and_true] at hd
  refine ⟨N1 + N2 + N3 + N4 + N5 + N6 + N7 + N8 + N9 + N10 + (eachS (.jn a c)).length + 9, fun n hn => ?_⟩
  obtain ⟨m, rfl⟩ : ∃ m, n = m + 1 := ⟨n - 1, by omega⟩
  have h1 := h1 m (by omega)
  have h2 := h2 m (by omega)
  have h3 := h3 m (by omega)
  have h4 := h4 m (by omega)
  have h5 := h5 m (by omega)
  have h6 := h6 m (by omega)
  have h7 := h7 m (by omega)
  have h8 := h8 m (by omega)
  have h9 := h9 m (by omega)
  have h10 : ∀ x ∈ eachS (.jn a c), _ := fun x hx => h10 x hx N10 (Nat.le_refl _) m (by omega)
  rw [setT_in hmk hbs, hbt] at h9
  rw [hbt] at h2
  rw [decide_eq_true rfl] at h7
  rw [decide_eq_false hne] at h8
  have hpx := h10 _ hxn
  have hl := eachS_len (.jn a c)
  have hbud := F.bud
  have hnt : Try.f6.ntmps = 116 := rfl
  have hbp := bodyR_pcs m 6 Try.f6 [.p (BT.jn a c).enc] [] rfl (by rw [hnt]; show 1 ≤ 116; omega) (by decide)
  have hgc : (!(mkE m 6 false).H.keep (mkE m 6 false).fid) = true := by simp
  have hK : (mkE m 6 false).K = m := rfl
  have ht1 : turnS (.jn a c) = (.jn c a, true) := rfl
  have ht2 : turnS (.jn c a) = (.jn a c, true) := rfl
  rw [ht1] at h3
  rw [ht2] at h6
  by_cases hs : sizeS (BT.jn a c).tr 100 > 100
  · rw [pr_run fn6]
    simp only [ht, hxe, hze, iV, bV] at h1 h2 h3 h4 h5 h6 ⊢
    simp -implicitDefEqProofs [bodyR, Try.f6, argTm, h1, h2, hs]
  · have hp : ∃ tm1, runS (mkE m 6 false) 116 [pc Try.f6 0, pc Try.f6 1, pc Try.f6 2, pc Try.f6 3, pc Try.f6 4, pc Try.f6 5, pc Try.f6 6, pc Try.f6 7, pc Try.f6 8, pc Try.f6 9, pc Try.f6 10] ⟨argTm [.p (BT.jn a c).enc], []⟩ = some (.normal, ⟨tm1, [Bx o L, Bx ox lx, Bx o L, Bx oz lz]⟩) ∧ Fr6 tm1 true has ((eachS (.jn a c)).map BT.enc) 0 := by
      obtain ⟨⟨p1, p2⟩, p3⟩ := hpx
      generalize (eachS (.jn a c)).map BT.enc = X at *
      simp only [ht, hxe, hze, iV, bV, Bx] at h1 h2 h3 h4 h5 h6 h7 h8 h9 p1 p2 p3 ⊢
      simp -implicitDefEqProofs [runS, pc, pcs, seqsC, Try.f6, argTm, h1, h2, h3, h4, h5, h6, h7, h8, h9, p1, p2, p3, hs, hd.1.1, hd.1.2, hd.2.1.1, hd.2.1.2, hd.2.2.1, hd.2.2.2, Fr6, iV, bV]
    obtain ⟨tm1, hp, hf⟩ := hp
    obtain ⟨tm2, e1, e2⟩ := back_loop m o ox o oz L lx L lz mk true has (eachS (.jn a c)) (ht ▸ h9) (fun x hx => (h10 x hx).1.1) (fun x hx => (h10 x hx).1.2) (fun x hx => ht ▸ (h10 x hx).2) (eachS (.jn a c)) [] rfl (by omega) m (by omega) tm1 hf
    have split11 : ∀ (r : List Code) (s : ASt), runS (mkE m 6 false) 116 (pc Try.f6 0 :: pc Try.f6 1 :: pc Try.f6 2 :: pc Try.f6 3 :: pc Try.f6 4 :: pc Try.f6 5 :: pc Try.f6 6 :: pc Try.f6 7 :: pc Try.f6 8 :: pc Try.f6 9 :: pc Try.f6 10 :: r) s = seqR (runS (mkE m 6 false) 116 [pc Try.f6 0, pc Try.f6 1, pc Try.f6 2, pc Try.f6 3, pc Try.f6 4, pc Try.f6 5, pc Try.f6 6, pc Try.f6 7, pc Try.f6 8, pc Try.f6 9, pc Try.f6 10] s) (runS (mkE m 6 false) 116 r) := fun r s => runS_app _ _ [_, _, _, _, _, _, _, _, _, _, _] r s
    rw [pr_run fn6]
    simp only [List.map] at hbp ⊢
    rw [hbp, pcs6, hnt, split11, hp, seqR_normal, runS, pc11_6, codeA_block, codeA_loop, hgc, hK, e1]
    obtain ⟨f1, f5, f8, f9, f10, f11⟩ := e2
    cases has with
    | false =>
      simp only [bV, iV, Bx] at f1 f5 f8 f9 f10 f11 ⊢
      simp -implicitDefEqProofs [runS, pc, pcs, seqsC, Try.f6, f1, f5, f8, f9, f10, f11, hd.1.1, hd.1.2, hd.2.1.1, hd.2.1.2, hd.2.2.1, hd.2.2.2]
    | true =>
      obtain ⟨⟨q1, q2⟩, q3⟩ := h10 z (hzn rfl)
      simp only [ht, hze, bV, iV, Bx] at f1 f5 f8 f9 f10 f11 q1 q2 h9 ⊢
      simp -implicitDefEqProofs [runS, pc, pcs, seqsC, Try.f6, f1, f5, f8, f9, f10, f11, q1, q2, h9, hd.1.1, hd.1.2, hd.2.1.1, hd.2.1.2, hd.2.2.1, hd.2.2.2]

theorem ruleBack_ev (t : Tr) : Ev 6 [t.enc] (.p (bV true)) := by
  cases hm : mayT t with
  | false => exact back_none t (Turn_no t hm) (Move_no t hm) (next_no t hm)
  | true =>
    obtain ⟨b, rfl, hok, hA⟩ := bt_of_may hm
    obtain ⟨mk, hmk, hbs, F⟩ := A4_facts hA
    cases b with
    | lf i =>
      refine back_none _ (Turn_yes (.lf i) hok) (Move_yes (.lf i) hok) ?_
      have := next_yes (.lf i) F.all F.bud
      simp only [eachS, List.map] at this
      exact this
    | jn a c => exact back_some a c mk hmk hbs

end Go.Ab
