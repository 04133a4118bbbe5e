/-
  All trees by any rules: the loop.
-/
import Derived.Test.YtlgjecmpmifjpaaR1h
set_option linter.unusedVariables false
set_option linter.unusedSimpArgs false
namespace Go.Ab
open Go.Proofs

theorem close_no (t : Tr) (h : mayT t = false) : Ev 20 [t.enc] (.p (.list [])) := by
  obtain ⟨N, h1⟩ := may_ev t
  obtain ⟨o, l, ht⟩ := tr_form t
  refine ⟨N + 1, fun n hn => ?_⟩
  obtain ⟨m, rfl⟩ : ∃ m, n = m + 1 := ⟨n - 1, by omega⟩
  have h1 := h1 m (by omega)
  rw [pr_run fn20]
  simp only [ht, h, bV] at h1 ⊢
  simp -implicitDefEqProofs [bodyR, Try.f20, argTm, h1]

/-- The iterator does its work, from one number of rounds on. -/
def EachN (t : BT) (N : Nat) : Prop := ∀ {n0 id k0 : Nat} {α : Type} {live : Nat → α → Prop} {R : α → Store → Prop} {step : α → BT → α × Bool} {okx : BT → Prop}, YOK n0 id k0 live R step okx → ∀ n, N + n0 ≤ n →
  ∀ (a : α) (σ : Store) (c : Nat), live (bud t) a → R a σ → (∀ a σ, R a σ → σ[c]? = some (.box (t.enc.cells.map .p))) → (∀ x ∈ eachS t, okx x) →
    ∃ σ', invA TP HT n (.fn 39 [] [.ptr c 0]) [.yld id] σ = some (.tup [], σ') ∧ R (runY step a (eachS t)).1 σ' ∧ Keep k0 σ σ'

theorem each_uni : ∃ N, ∀ x ∈ A4, EachN x N := by
  obtain ⟨N, h⟩ := fin_uni (P := fun x N => EachN x N) A4 fun x hx => by
    obtain ⟨k, hk, hxs, F⟩ := A4_facts hx
    obtain ⟨N, h⟩ := each_ok x F.all
    exact ⟨N, fun n hn n0 id k0 α live R step okx Y n' hn' => h Y n' (by omega)⟩
  exact ⟨N, fun x hx => h x hx N (Nat.le_refl _)⟩

def SC (t0 : BT) (out : List BT) : Store := [.box (t0.enc.cells.map .p), .arr 24 (out.map BT.enc) 0, .box [.own 1 out.length], .map (kv out), .box [.map 3]]

theorem take5 {σ : Store} {a b c d e : AObj} (h0 : σ[0]? = some a) (h1 : σ[1]? = some b) (h2 : σ[2]? = some c) (h3 : σ[3]? = some d) (h4 : σ[4]? = some e) : σ.take 5 = [a, b, c, d, e] := by
  match σ, h0, h1, h2, h3, h4 with
  | a' :: b' :: c' :: d' :: e' :: r, h0, h1, h2, h3, h4 => simp_all

theorem runY_add (l : List BT) : ∀ a : List BT, runY (fun (out : List BT) x => (addS out x, true)) a l = (addAll a l, true) := by
  induction l with
  | nil => intro a; simp [runY, addAll]
  | cons x l ih => intro a; simp only [runY, if_true]; rw [ih]; rfl

def closeE : Nat → List BT → Nat → Option (List BT)
  | 0, _, _ => none
  | k + 1, out, i => match out[i]? with
    | some t => closeE k (addAll out (eachS t)) (i + 1)
    | none => some out

theorem closeE_ok {t : BT} {m : Nat} (hm : m ∈ masks) : ∀ (k : Nat) (out : List BT) (i : Nat), BInv t m out i → 121 ≤ k + i → closeE k out i = some (closeL k out i)
  | 0, out, i, h, hk => by
    have := h.len hm
    have := h.le
    omega
  | k + 1, out, i, h, hk => by
    simp only [closeL, closeE]
    cases hx : out[i]? with
    | none => rfl
    | some x => exact closeE_ok hm k _ _ (h.step hm hx) (by omega)

def Fr20 (tm : Nat → AV) (i : Nat) : Prop := tm 3 = .ptr 2 0 ∧ tm 4 = .ptr 4 0 ∧ tm 5 = .p (iV i)

theorem addAll_len (l : List BT) : ∀ out : List BT, (addAll out l).length ≤ out.length + l.length := by
  induction l with
  | nil => intro out; simp [addAll]
  | cons x l ih =>
    intro out
    have h1 := ih (addS out x)
    have h2 : (addS out x).length ≤ out.length + 1 := by unfold addS; split <;> simp
    simp only [addAll, List.length_cons]
    omega

theorem lb20 : seqsC (loopOf (pc Try.f20 6)) = [(seqsC (loopOf (pc Try.f20 6))).getD 0 .skip, (seqsC (loopOf (pc Try.f20 6))).getD 1 .skip, (seqsC (loopOf (pc Try.f20 6))).getD 2 .skip, (seqsC (loopOf (pc Try.f20 6))).getD 3 .skip] := by rfl

set_option maxHeartbeats 4000000 in
theorem round20 : ∃ N, ∀ m, N ≤ m → ∀ (t0 t' : BT) (out : List BT) (i : Nat) (tm : Nat → AV), Fr20 tm i → out[i]? = some t' → (∀ b ∈ out, b ∈ A4) → out.length ≤ 900000 → i < 100000 →
    ∃ tm', (∀ k, loopA true (codeA (mkE m 20 false) 44 (loopOf (pc Try.f20 6))) (k + 1) ⟨tm, SC t0 out⟩ = loopA true (codeA (mkE m 20 false) 44 (loopOf (pc Try.f20 6))) k ⟨tm', SC t0 (addAll out (eachS t'))⟩) ∧ Fr20 tm' (i + 1) := by
  obtain ⟨NC, hYC⟩ := YC
  obtain ⟨NE, hE⟩ := each_uni
  refine ⟨NC + NE + 9, fun m hm t0 t' out i tm hf hx hA hlen hi => ?_⟩
  obtain ⟨f3, f4, f5⟩ := hf
  obtain ⟨m', rfl⟩ : ∃ m', m = m' + 1 := ⟨m - 1, by omega⟩
  have ht' : t' ∈ A4 := hA t' (List.mem_of_getElem? hx)
  obtain ⟨mk, hmk, hts, F⟩ := A4_facts ht'
  obtain ⟨hil, hix⟩ := List.getElem?_eq_some_iff.1 hx
  obtain ⟨o, l, hte⟩ := enc_form t'
  have h29 := each29 m' t' (SC t0 out)
  have hii : (i : Int) < out.length := by omega
  have hmap : (out.map BT.enc)[i]? = some t'.enc := by simp [hx]
  have hpA : ∃ tmA, runS (mkE (m' + 1) 20 false) 44 [(seqsC (loopOf (pc Try.f20 6))).getD 0 .skip, (seqsC (loopOf (pc Try.f20 6))).getD 1 .skip] ⟨tm, SC t0 out⟩ = some (.normal, ⟨tmA, SC t0 out⟩) ∧ tmA 3 = .ptr 2 0 ∧ tmA 4 = .ptr 4 0 ∧ tmA 5 = .p (iV i) := by
    simp only [SC, iV] at f5 ⊢
    simp -implicitDefEqProofs [runS, pc, pcs, seqsC, loopOf, blockOf, Try.f20, f3, f4, f5, hii]
  obtain ⟨tmA, hpA, a3, a4, a5⟩ := hpA
  have hpB : ∃ tmB, codeA (mkE (m' + 1) 20 false) 44 ((seqsC (blockOf ((seqsC (loopOf (pc Try.f20 6))).getD 2 .skip))).getD 0 .skip) ⟨tmA, SC t0 out⟩ = some (.normal, ⟨tmB, SC t0 out ++ [.box (t'.enc.cells.map .p)]⟩) ∧ tmB 27 = .fn 39 [] [.ptr 5 0] ∧ tmB 3 = .ptr 2 0 ∧ tmB 4 = .ptr 4 0 ∧ tmB 5 = .p (iV i) := by
    simp only [SC, hte, PV.cells, List.map, iV] at h29 a5 hmap ⊢
    simp -implicitDefEqProofs [runS, pc, pcs, seqsC, loopOf, blockOf, Try.f20, a3, a4, a5, hii, hil, hix, hte, h29]
  obtain ⟨tmB, hpB, b27, b3, b4, b5⟩ := hpB
  let σ1 : Store := SC t0 out ++ [.box (t'.enc.cells.map .p)]
  have hR : RC t0 t' tmB out (σ1 ++ [.loop .ready none tmB [28] (rng Try.f20 0).1 (rng Try.f20 0).2 20]) := ⟨rfl, rfl, rfl, rfl, rfl, rfl, rfl, hA⟩
  obtain ⟨σ2, e1, e2, e3⟩ := hE t' ht' (hYC t0 t' tmB b3 b4) (m' + 1) (by omega) out _ 5 (by have := F.bud; omega) hR (fun _ _ h => h.2.2.2.2.2.1) (fun x hx => mem_A4.2 ⟨mk, hmk, F.next x hx⟩)
  rw [runY_add] at e2
  obtain ⟨r0, r1, r2, r3, r4, r5, r6, r7⟩ := e2
  have hl1 : σ1.length = 6 := by simp [σ1, SC]
  have hro := range_out (E := mkE (m' + 1) 20 false) (fv := .fn 39 [] [.ptr 5 0]) (ps := #[28]) (ac := (rng Try.f20 0).1) (bd := (rng Try.f20 0).2) (tm := tmB) (σ := σ1) (s := false) rfl rfl (by rw [hl1]; exact e1) (by rw [hl1]; exact r6)
  rw [hl1] at hro
  have hpC : (seqsC (blockOf ((seqsC (loopOf (pc Try.f20 6))).getD 2 .skip))).getD 1 .skip = .block 2 (.rangeFunc (.tmp 27) #[28] (rng Try.f20 0).1 (rng Try.f20 0).2) := by rfl
  have hb2 : (seqsC (loopOf (pc Try.f20 6))).getD 2 .skip = .block 1 (blockOf ((seqsC (loopOf (pc Try.f20 6))).getD 2 .skip)) := by rfl
  have hs2 : seqsC (blockOf ((seqsC (loopOf (pc Try.f20 6))).getD 2 .skip)) = [(seqsC (blockOf ((seqsC (loopOf (pc Try.f20 6))).getD 2 .skip))).getD 0 .skip, (seqsC (blockOf ((seqsC (loopOf (pc Try.f20 6))).getD 2 .skip))).getD 1 .skip] := by rfl
  let σ3 : Store := σ2.set 6 (.loop .exhausted none tmB [28] (rng Try.f20 0).1 (rng Try.f20 0).2 20)
  have hC2 : codeA (mkE (m' + 1) 20 false) 44 ((seqsC (loopOf (pc Try.f20 6))).getD 2 .skip) ⟨tmA, SC t0 out⟩ = some (.normal, ⟨tmB, σ3⟩) := by
    rw [hb2, codeA_block, runS_seqs, hs2]
    simp only [runS]
    rw [hpB, seqR_normal, hpC, codeA_block, codeA_range]
    simp only [evA_tmp, b27]
    rw [hro]
    rfl
  have hD : ∃ tmD, codeA (mkE (m' + 1) 20 false) 44 ((seqsC (loopOf (pc Try.f20 6))).getD 3 .skip) ⟨tmB, σ3⟩ = some (.normal, ⟨tmD, σ3⟩) ∧ tmD 3 = .ptr 2 0 ∧ tmD 4 = .ptr 4 0 ∧ tmD 5 = .p (iV ((i : Int) + 1)) := by
    have hw : IntKind.i64.wrap ((i : Int) + 1) = (i : Int) + 1 := wrap_small _ (by omega) (by omega)
    clear_value σ3
    simp only [iV] at b5 ⊢
    simp -implicitDefEqProofs [pc, pcs, seqsC, loopOf, blockOf, Try.f20, b3, b4, b5, hw]
  obtain ⟨tmD, hD, d3, d4, d5⟩ := hD
  have hbody : codeA (mkE (m' + 1) 20 false) 44 (loopOf (pc Try.f20 6)) ⟨tm, SC t0 out⟩ = some (.normal, ⟨tmD, σ3⟩) := by
    have split2 : ∀ (a b : Code) (r : List Code) (s : ASt), runS (mkE (m' + 1) 20 false) 44 (a :: b :: r) s = seqR (runS (mkE (m' + 1) 20 false) 44 [a, b] s) (runS (mkE (m' + 1) 20 false) 44 r) := fun a b r s => runS_app _ _ [_, _] r s
    rw [runS_seqs, lb20, split2, hpA, seqR_normal, runS, hC2, seqR_normal, runS, hD, seqR_normal]
    rfl
  have h5 : σ3.take 5 = SC t0 (addAll out (eachS t')) := by
    refine take5 ?_ ?_ ?_ ?_ ?_ <;> (simp only [σ3]; rw [List.getElem?_set_ne (by omega)]; assumption)
  have hall : (σ3.take 5).all (belowO 5) = true := by
    rw [h5]
    obtain ⟨o0, l0, ht0⟩ := enc_form t0
    simp [SC, ht0]
  have hgc : gcA (SC t0 out).length ⟨tmD, σ3⟩ = ⟨fun t => cleanA 5 (tmD t), SC t0 (addAll out (eachS t'))⟩ := by
    have : (SC t0 out).length = 5 := rfl
    rw [this]
    unfold gcA
    rw [if_pos hall, h5]
  refine ⟨fun t => cleanA 5 (tmD t), fun k => ?_, ?_⟩
  · rw [loopA_succ, hbody, loopK_normal, if_pos rfl]
    exact congrArg _ hgc
  · refine ⟨?_, ?_, ?_⟩
    · simp [d3]
    · simp [d4]
    · simp [d5, iV]

theorem exit20 {m : Nat} {t0 : BT} {out : List BT} {i : Nat} {tm : Nat → AV} (hf : Fr20 tm i) (hx : out[i]? = none) (k : Nat) : ∃ tm', loopA true (codeA (mkE m 20 false) 44 (loopOf (pc Try.f20 6))) (k + 1) ⟨tm, SC t0 out⟩ = some (.exit 0, ⟨tm', SC t0 out⟩) ∧ tm' 3 = .ptr 2 0 := by
  obtain ⟨f3, f4, f5⟩ := hf
  have hle : out.length ≤ i := by
    rcases Nat.lt_or_ge i out.length with h | h
    · rw [List.getElem?_eq_getElem h] at hx; cases hx
    · exact h
  have hni : ¬ ((i : Int) < out.length) := by omega
  rw [loopA_succ]
  simp only [SC, iV] at f5 ⊢
  simp -implicitDefEqProofs [pc, pcs, seqsC, loopOf, Try.f20, f3, f4, f5, hni]

theorem loop20 : ∃ N, ∀ m, N ≤ m → ∀ (t0 : BT) (kk : Nat) (out : List BT) (i : Nat) (r : List BT) (tm : Nat → AV) (k : Nat), Fr20 tm i → closeE kk out i = some r → (∀ b ∈ out, b ∈ A4) → out.length ≤ 1000 * (i + 1) → i + kk ≤ 200 → kk ≤ k →
    ∃ tm', loopA true (codeA (mkE m 20 false) 44 (loopOf (pc Try.f20 6))) k ⟨tm, SC t0 out⟩ = some (.exit 0, ⟨tm', SC t0 r⟩) ∧ tm' 3 = .ptr 2 0 := by
  obtain ⟨N, h⟩ := round20
  refine ⟨N, fun m hm t0 kk => ?_⟩
  induction kk with
  | zero => intro out i r tm k _ hc; simp [closeE] at hc
  | succ kk ih =>
    intro out i r tm k hf hc hA hlen hik hk
    obtain ⟨k', rfl⟩ : ∃ k', k = k' + 1 := ⟨k - 1, by omega⟩
    simp only [closeE] at hc
    cases hx : out[i]? with
    | none =>
      rw [hx] at hc
      injection hc with hc
      subst hc
      exact exit20 hf hx k'
    | some t' =>
      rw [hx] at hc
      obtain ⟨tm', e1, e2⟩ := h m hm t0 t' out i tm hf hx hA (by omega) (by omega)
      rw [e1 k']
      obtain ⟨mk, hmk, hts, F⟩ := A4_facts (hA t' (List.mem_of_getElem? hx))
      refine ih _ _ r tm' k' e2 hc (fun b hb => ?_) ?_ (by omega) (by omega)
      · rcases (addAll_mem _ _ _).1 hb with hb | hb
        · exact hA b hb
        · exact mem_A4.2 ⟨mk, hmk, F.next b hb⟩
      · have h1 := addAll_len (eachS t') out
        have h2 := eachS_len t'
        have h3 := F.bud
        omega

theorem pcs20 : pcs Try.f20 = [pc Try.f20 0, pc Try.f20 1, pc Try.f20 2, pc Try.f20 3, pc Try.f20 4, pc Try.f20 5, pc Try.f20 6, pc Try.f20 7, pc Try.f20 8] := by rfl
theorem pc6_20 : pc Try.f20 6 = .block 0 (.loop (loopOf (pc Try.f20 6))) := by rfl

set_option maxHeartbeats 4000000 in
theorem close_yes {t : BT} (h : t ∈ A4) : Ev 20 [t.enc] (.p (.list ((closeS t).map BT.enc))) := by
  obtain ⟨mk, hmk, hts, F⟩ := A4_facts h
  obtain ⟨N1, h1⟩ := may_ev t.tr
  obtain ⟨N2, h2⟩ := Text_ev h
  obtain ⟨N3, h3⟩ := loop20
  have hcl := closeE_ok hmk 200 [t] 0 (start_inv hts) (by omega)
  refine ⟨N1 + N2 + N3 + 300, fun n hn => ?_⟩
  obtain ⟨m, rfl⟩ : ∃ m, n = m + 1 := ⟨n - 1, by omega⟩
  have h1 := h1 m (by omega)
  have h2 := h2 m (by omega)
  obtain ⟨o, l, ht⟩ := enc_form t
  have hb' : t.tr.enc = t.enc := rfl
  have hm : mayT t.tr = true := okAll_ok F.all
  rw [hb', hm] at h1
  have hnt : Try.f20.ntmps = 44 := rfl
  have hbp := bodyR_pcs m 20 Try.f20 [.p t.enc] [] rfl (by rw [hnt]; show 1 ≤ 44; omega) (by decide)
  have hp : ∃ tm1, runS (mkE m 20 false) 44 [pc Try.f20 0, pc Try.f20 1, pc Try.f20 2, pc Try.f20 3, pc Try.f20 4, pc Try.f20 5] ⟨argTm [.p t.enc], []⟩ = some (.normal, ⟨tm1, SC t [t]⟩) ∧ Fr20 tm1 0 := by
    simp only [ht, bV, SC, PV.cells, List.map, kv] at h1 h2 ⊢
    simp -implicitDefEqProofs [runS, pc, pcs, seqsC, Try.f20, argTm, h1, h2, setM, Fr20, iV]
  obtain ⟨tm1, hp, hf⟩ := hp
  obtain ⟨tm2, e1, e2⟩ := h3 m (by omega) t 200 [t] 0 _ tm1 m hf hcl (fun b hb => by simp at hb; subst hb; exact h) (by simp) (by omega) (by omega)
  have split6 : ∀ (r : List Code) (s : ASt), runS (mkE m 20 false) 44 (pc Try.f20 0 :: pc Try.f20 1 :: pc Try.f20 2 :: pc Try.f20 3 :: pc Try.f20 4 :: pc Try.f20 5 :: r) s = seqR (runS (mkE m 20 false) 44 [pc Try.f20 0, pc Try.f20 1, pc Try.f20 2, pc Try.f20 3, pc Try.f20 4, pc Try.f20 5] s) (runS (mkE m 20 false) 44 r) := fun r s => runS_app _ _ [_, _, _, _, _, _] r s
  have hgc : (!(mkE m 20 false).H.keep (mkE m 20 false).fid) = true := by simp
  have hK : (mkE m 20 false).K = m := rfl
  rw [pr_run fn20]
  simp only [List.map] at hbp ⊢
  rw [hbp, pcs20, hnt, split6, hp, seqR_normal, runS, pc6_20, codeA_block, codeA_loop, hgc, hK, e1]
  have hcs : closeL 200 [t] 0 = closeS t := rfl
  rw [hcs]
  simp -implicitDefEqProofs [runS, pc, pcs, seqsC, Try.f20, e2, SC]

end Go.Ab
