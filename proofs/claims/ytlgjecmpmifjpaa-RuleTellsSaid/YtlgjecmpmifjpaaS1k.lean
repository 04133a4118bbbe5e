/-
  The document's Close, as a call; RuleTells.
-/
import Derived.Test.YtlgjecmpmifjpaaS1j
set_option linter.unusedVariables false
set_option linter.unusedSimpArgs false
namespace Go.Ab
open Go.Proofs

theorem rclose_no (t : Tr) (h : mayT t = false) : Ev 21 [t.enc] (.p (.list [])) := by
  obtain ⟨N, h1⟩ := rmay_ev t
  obtain ⟨o, l, ht⟩ := tr_form t
  refine ⟨N + 1, fun n hn => ?_⟩
  obtain ⟨m, rfl⟩ : ∃ m, n = m + 1 := ⟨n - 1, by omega⟩
  have h1 := h1 m (by omega)
  rw [h] at h1
  rw [pr_run fn21]
  simp only [ht, bV] at h1 ⊢
  simp -implicitDefEqProofs [bodyR, Try.f21, argTm, h1]

set_option maxHeartbeats 4000000 in
theorem rclose_yes {t : BT} (h : t ∈ A4) : Ev 21 [t.enc] (.p (.list ((closeS t).map BT.enc))) := by
  obtain ⟨mk, hmk, hts, F⟩ := A4_facts h
  obtain ⟨N1, h1⟩ := rmay_ev t.tr
  obtain ⟨N2, h2⟩ := has_uni
  obtain ⟨N3, h3⟩ := rnext_uni
  have hcl := closeE_ok hmk 200 [t] 0 (start_inv hts) (by omega)
  have hm : mayT t.tr = true := okAll_ok F.all
  have hb' : t.tr.enc = t.enc := rfl
  rw [hb', hm] at h1
  refine ⟨N1 + N2 + N3 + 30000, fun n hn => ?_⟩
  obtain ⟨m, rfl⟩ : ∃ m, n = m + 1 + 1 := ⟨n - 2, by omega⟩
  have h1 := h1 (m + 1) (by omega)
  obtain ⟨o, L, ht⟩ := enc_form t
  have hnt : Try.f21.ntmps = 48 := rfl
  have hbp := bodyR_pcs (m + 1) 21 Try.f21 [.p t.enc] [] rfl (by rw [hnt]; show 1 ≤ 48; omega) (by decide)
  have hp : ∃ tm1, runS (mkE (m + 1) 21 false) 48 [pc Try.f21 0, pc Try.f21 1, pc Try.f21 2, pc Try.f21 3, pc Try.f21 4, pc Try.f21 5] ⟨argTm [.p t.enc], []⟩ = some (.normal, ⟨tm1, S21 o L [t] 0⟩) ∧ FrK tm1 [t] 0 := by
    simp only [ht, bV, S21, Bx, List.map] at h1 ⊢
    simp -implicitDefEqProofs [runS, pc, pcs, seqsC, Try.f21, argTm, h1, FrK, iV]
  obtain ⟨tm1, hp, hf⟩ := hp
  obtain ⟨tm2, fz, e1, e2⟩ := o_loop m (by omega) o L (fun x hx => h3 x hx (m + 1) (by omega)) (fun out t hA ht h4 h5 => h2 m (by omega) out t hA ht h4 h5) 200 [t] 0 0 _ tm1 (m + 1) hf (by simp) hcl (fun b hb => by simp at hb; subst hb; exact h) (by simp) (by omega) (by omega)
  have split6 : ∀ (r : List Code) (s : ASt), runS (mkE (m + 1) 21 false) 48 (pc Try.f21 0 :: pc Try.f21 1 :: pc Try.f21 2 :: pc Try.f21 3 :: pc Try.f21 4 :: pc Try.f21 5 :: r) s = seqR (runS (mkE (m + 1) 21 false) 48 [pc Try.f21 0, pc Try.f21 1, pc Try.f21 2, pc Try.f21 3, pc Try.f21 4, pc Try.f21 5] s) (runS (mkE (m + 1) 21 false) 48 r) := fun r s => runS_app _ _ [_, _, _, _, _, _] r s
  have hgc : (!(mkE (m + 1) 21 false).H.keep (mkE (m + 1) 21 false).fid) = true := by simp
  have hK : (mkE (m + 1) 21 false).K = m + 1 := rfl
  rw [pr_run fn21]
  simp only [List.map] at hbp ⊢
  rw [hbp, pcs21, hnt, split6, hp, seqR_normal, runS, pc6_21, codeA_block, codeA_loop, hgc, hK, e1]
  have hcs : closeL 200 [t] 0 = closeS t := rfl
  rw [hcs] at e2 ⊢
  simp only [S21, Bx]
  simp -implicitDefEqProofs [runS, pc, pcs, seqsC, Try.f21, e2]

set_option maxHeartbeats 4000000 in
/-- The law, once all that it calls is known. -/
theorem tells_of (t : Tr) (x z : BT) (is has : Bool) (X C : List BT) (hX : X.length < 100000) (hC : C.length < 100000)
    (hT : Ev 13 [t.enc] (.tup [.p x.enc, .p (bV is)])) (hT' : Ev 14 [t.enc] (.tup [.p x.enc, .p (bV is)]))
    (hM : Ev 15 [t.enc] (.tup [.p z.enc, .p (bV has)])) (hM' : Ev 16 [t.enc] (.tup [.p z.enc, .p (bV has)]))
    (hN : Ev 11 [t.enc] (.p (.list (X.map BT.enc)))) (hN' : Ev 19 [t.enc] (.p (.list (X.map BT.enc))))
    (hK : Ev 20 [t.enc] (.p (.list (C.map BT.enc)))) (hK' : Ev 21 [t.enc] (.p (.list (C.map BT.enc)))) : Ev 4 [t.enc] (.p (bV true)) := by
  obtain ⟨N1, h1⟩ := awake_ev
  obtain ⟨N2, h2⟩ := size_ev t 100 (by omega) (by omega)
  obtain ⟨N3, h3⟩ := hT
  obtain ⟨N4, h4⟩ := hT'
  obtain ⟨N5, h5⟩ := hM
  obtain ⟨N6, h6⟩ := hM'
  obtain ⟨N7, h7⟩ := hN
  obtain ⟨N8, h8⟩ := hN'
  obtain ⟨N9, h9⟩ := hK
  obtain ⟨N10, h10⟩ := hK'
  obtain ⟨N11, h11⟩ := rsame_ev x x
  obtain ⟨N12, h12⟩ := rsame_ev z z
  obtain ⟨N13, h13⟩ := lists_ev X hX
  obtain ⟨N14, h14⟩ := lists_ev C hC
  obtain ⟨o, l, ht⟩ := tr_form t
  obtain ⟨ox, lx, hx⟩ := enc_form x
  obtain ⟨oz, lz, hz⟩ := enc_form z
  have hd := dr4
  simp only [regsF, Try.f4, regs, List.map, List.nil_append, List.append_nil, List.cons_append, List.cons.injEq, Prod.mk.injEq, and_true] at hd
  refine ⟨N1 + N2 + N3 + N4 + N5 + N6 + N7 + N8 + N9 + N10 + N11 + N12 + N13 + N14 + 1, fun n hn => ?_⟩
  obtain ⟨m, rfl⟩ : ∃ m, n = m + 1 := ⟨n - 1, by omega⟩
  have h1 := h1 m (by omega)
  have h2 := h2 m (by omega)
  have h3 := h3 m (by omega)
  have h4 := h4 m (by omega)
  have h5 := h5 m (by omega)
  have h6 := h6 m (by omega)
  have h7 := h7 m (by omega)
  have h8 := h8 m (by omega)
  have h9 := h9 m (by omega)
  have h10 := h10 m (by omega)
  have h11 := h11 m (by omega)
  have h12 := h12 m (by omega)
  have h13 := h13 m (by omega)
  have h14 := h14 m (by omega)
  rw [decide_eq_true rfl] at h11 h12
  generalize X.map BT.enc = XE at *
  generalize C.map BT.enc = CE at *
  rw [pr_run fn4]
  simp only [ht, hx, hz, iV, bV] at h1 h2 h3 h4 h5 h6 h7 h8 h9 h10 h11 h12 h13 h14 ⊢
  by_cases hs : sizeS t 100 > 100
  · simp -implicitDefEqProofs [bodyR, Try.f4, argTm, h1, h2, hs]
  · simp -implicitDefEqProofs [bodyR, Try.f4, argTm, h1, h2, h3, h4, h5, h6, h7, h8, h9, h10, h11, h12, h13, h14, hs, hd.1, hd.2]

theorem ruleTells_ev (t : Tr) : Ev 4 [t.enc] (.p (bV true)) := by
  cases hm : mayT t with
  | false => exact tells_of t zT zT false false [] [] (by simp) (by simp) (Turn_no t hm) (rturn_no t hm) (Move_no t hm) (rmove_no t hm) (next_no t hm) (rnext_none t (rturn_no t hm) (rmove_no t hm)) (close_no t hm) (rclose_no t hm)
  | true =>
    obtain ⟨b, rfl, hok, hA⟩ := bt_of_may hm
    obtain ⟨mk, hmk, hbs, F⟩ := A4_facts hA
    have h1 := eachS_len b
    have h2 := F.bud
    have h3 := close_len hmk hbs
    have h4 := set_le hmk
    exact tells_of b.tr _ _ _ _ _ _ (by omega) (by omega) (Turn_yes b hok) (rturn_yes b hok) (Move_yes b hok) (rmove_yes b hok) (next_yes b F.all F.bud) (rnext_yes b F.all F.bud) (close_yes hA) (rclose_yes hA)

end Go.Ab
