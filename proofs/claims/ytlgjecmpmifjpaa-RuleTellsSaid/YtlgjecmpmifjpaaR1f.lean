/-
  The iterator, piece by piece.
-/
import Derived.Test.YtlgjecmpmifjpaaR1e
set_option linter.unusedVariables false
set_option linter.unusedSimpArgs false
namespace Go.Ab
open Go.Proofs

def Keep (k0 : Nat) (σ σ' : Store) : Prop := (∀ j, k0 ≤ j → j < σ.length → σ'[j]? = σ[j]?) ∧ σ.length ≤ σ'.length
theorem Keep.refl (k0 : Nat) (σ : Store) : Keep k0 σ σ := ⟨fun _ _ _ => rfl, Nat.le_refl _⟩
theorem Keep.trans {k0 : Nat} {a b c : Store} (h : Keep k0 a b) (h' : Keep k0 b c) : Keep k0 a c :=
  ⟨fun j h1 h2 => (h'.1 j h1 (Nat.lt_of_lt_of_le h2 h.2)).trans (h.1 j h1 h2), Nat.le_trans h.2 h'.2⟩
theorem Keep.app (k0 : Nat) (σ G : Store) : Keep k0 σ (σ ++ G) := ⟨fun j _ h => List.getElem?_append_left h, by simp⟩
theorem Keep.get {k0 : Nat} {σ σ' : Store} (h : Keep k0 σ σ') {j : Nat} {o : AObj} (hj : k0 ≤ j) (ho : σ[j]? = some o) : σ'[j]? = some o := by
  rw [h.1 j hj (List.getElem?_eq_some_iff.1 ho).1]; exact ho

/-- What the frame of the iterator holds. -/
def Fr39 (tm : Nat → AV) (c y : Nat) (i : Nat) : Prop := tm 1 = .ptr c 0 ∧ tm 2 = .ptr y 0 ∧ tm 12 = .p (.list [ruV 31, ruV 34]) ∧ tm 13 = .p (iV 2) ∧ tm 14 = .p (iV i)

set_option maxHeartbeats 4000000 in
theorem it39 {n0 id k0 : Nat} {α : Type} {live : Nat → α → Prop} {R : α → Store → Prop} {step : α → BT → α × Bool} {okx : BT → Prop} (Y : YOK n0 id k0 live R step okx) {m c y : Nat} (hn : n0 ≤ m) {a : α} {t x : BT} {is : Bool} {σ : Store} {tm : Nat → AV} {i f : Nat}
    {kk : Nat} (hl : live (kk + 1) a) (hx : is = true → okx x) (hR : R a σ) (h2 : k0 ≤ y) (hc : σ[c]? = some (.box (t.enc.cells.map .p))) (hy : σ[y]? = some (.box [.yld id])) (hf : Fr39 tm c y i)
    (hi : (i = 0 ∧ f = 31) ∨ (i = 1 ∧ f = 34)) (hby : prA TP HT m 30 [t.enc, ruV f] = some (.tup [.p x.enc, .p (bV is)])) :
    ∃ tm' σ', codeA (mkE m 39 false) 59 (loopOf (pc Try.f39 2)) ⟨tm, σ⟩ = some (if is && !(step a x).2 then .ret else .normal, ⟨tm', σ'⟩) ∧ R (if is then (step a x).1 else a) σ' ∧ Keep k0 σ σ' ∧ (is = false ∨ (step a x).2 = true → Fr39 tm' c y (i + 1)) := by
  obtain ⟨ox, lx, hxe⟩ := enc_form x
  obtain ⟨ot, lt, hte⟩ := enc_form t
  obtain ⟨f1, f2, f12, f13, f14⟩ := hf
  have hcl : c < σ.length := (List.getElem?_eq_some_iff.1 hc).1
  have hyl : y < σ.length := (List.getElem?_eq_some_iff.1 hy).1
  have hc2 := (List.getElem?_eq_some_iff.1 hc).2
  have hy2 := (List.getElem?_eq_some_iff.1 hy).2
  simp only [hte, PV.cells, List.map] at hc2
  let σ1 : Store := σ ++ [.box [.p (.val (.int .i64 ox)), .p (.list lx)]]
  have hk : Keep k0 σ σ1 := Keep.app _ _ _
  have hR1 : R a σ1 := Y.frame a σ σ1 hR fun j hj => List.getElem?_append_left (by have := Y.len a σ hR; omega)
  simp only [hxe, hte, bV, ruV] at hby
  cases his : is with
  | false =>
    subst his
    have key : ∃ tm', codeA (mkE m 39 false) 59 (loopOf (pc Try.f39 2)) ⟨tm, σ⟩ = some (.normal, ⟨tm', σ1⟩) ∧ Fr39 tm' c y (i + 1) := by
      rcases hi with ⟨rfl, rfl⟩ | ⟨rfl, rfl⟩ <;>
        simp -implicitDefEqProofs [loopOf, pc, pcs, seqsC, Try.f39, f1, f2, f12, f13, f14, iV, ruV, hcl, hyl, hc2, hy2, hby, List.getElem?_append, List.set_append, σ1, Fr39]
    obtain ⟨tm', k1, k2⟩ := key
    exact ⟨tm', σ1, k1, hR1, hk, fun _ => k2⟩
  | true =>
    subst his
    obtain ⟨σ2, r1, r2, r3, r4⟩ := Y.run m hn kk a x σ1 hl (hx rfl) hR1
    have hk2 : Keep k0 σ σ2 := hk.trans ⟨r3, r4⟩
    simp only [hxe] at r1
    cases hb : (step a x).2 with
    | true =>
      have key : ∃ tm', codeA (mkE m 39 false) 59 (loopOf (pc Try.f39 2)) ⟨tm, σ⟩ = some (.normal, ⟨tm', σ2⟩) ∧ Fr39 tm' c y (i + 1) := by
        simp only [hb, boolA, σ1] at r1
        rcases hi with ⟨rfl, rfl⟩ | ⟨rfl, rfl⟩ <;>
          simp -implicitDefEqProofs [loopOf, pc, pcs, seqsC, Try.f39, f1, f2, f12, f13, f14, iV, ruV, hcl, hyl, hc2, hy2, hby, List.getElem?_append, List.set_append, Fr39, r1]
      obtain ⟨tm', k1, k2⟩ := key
      exact ⟨tm', σ2, k1, r2, hk2, fun _ => k2⟩
    | false =>
      have key : ∃ tm', codeA (mkE m 39 false) 59 (loopOf (pc Try.f39 2)) ⟨tm, σ⟩ = some (.ret, ⟨tm', σ2⟩) := by
        simp only [hb, boolA, σ1] at r1
        rcases hi with ⟨rfl, rfl⟩ | ⟨rfl, rfl⟩ <;>
          simp -implicitDefEqProofs [loopOf, pc, pcs, seqsC, Try.f39, f1, f2, f12, f13, f14, iV, ruV, hcl, hyl, hc2, hy2, hby, List.getElem?_append, List.set_append, r1]
      obtain ⟨tm', k1⟩ := key
      exact ⟨tm', σ2, k1, r2, hk2, fun h => by simp at h⟩

def rulesS (t : BT) : List BT := (if (turnS t).2 then [(turnS t).1] else []) ++ (if (moveS t).2 then [(moveS t).1] else [])

set_option maxHeartbeats 4000000 in
theorem end39 {m c y : Nat} {σ : Store} {tm : Nat → AV} (hf : Fr39 tm c y 2) : ∃ tm', codeA (mkE m 39 false) 59 (loopOf (pc Try.f39 2)) ⟨tm, σ⟩ = some (.exit 0, ⟨tm', σ⟩) ∧ tm' 1 = .ptr c 0 ∧ tm' 2 = .ptr y 0 := by
  obtain ⟨f1, f2, f12, f13, f14⟩ := hf
  simp -implicitDefEqProofs [loopOf, pc, pcs, seqsC, Try.f39, f1, f2, f12, f13, f14, iV]

theorem pc2_39 : pc Try.f39 2 = .block 0 (.loop (loopOf (pc Try.f39 2))) := by rfl

theorem lp39 {n0 id k0 : Nat} {α : Type} {live : Nat → α → Prop} {R : α → Store → Prop} {step : α → BT → α × Bool} {okx : BT → Prop} (Y : YOK n0 id k0 live R step okx) {m c y : Nat} (hn : n0 ≤ m + 3) {a : α} {t : BT} {σ : Store} {tm : Nat → AV}
    {kk : Nat} (hl : live (kk + 2) a) (hx : ∀ x ∈ rulesS t, okx x) (hR : R a σ) (h2 : k0 ≤ y) (hc : ∀ a σ, R a σ → σ[c]? = some (.box (t.enc.cells.map .p))) (hy : σ[y]? = some (.box [.yld id])) (hf : Fr39 tm c y 0)
    (hb1 : prA TP HT (m + 3) 30 [t.enc, ruV 31] = some (.tup [.p (turnS t).1.enc, .p (bV (turnS t).2)])) (hb2 : prA TP HT (m + 3) 30 [t.enc, ruV 34] = some (.tup [.p (moveS t).1.enc, .p (bV (moveS t).2)])) :
    ∃ tm' σ', codeA (mkE (m + 3) 39 false) 59 (pc Try.f39 2) ⟨tm, σ⟩ = some (if (runY step a (rulesS t)).2 then .normal else .ret, ⟨tm', σ'⟩) ∧ R (runY step a (rulesS t)).1 σ' ∧ Keep k0 σ σ' ∧ ((runY step a (rulesS t)).2 = true → tm' 1 = .ptr c 0 ∧ tm' 2 = .ptr y 0) := by
  obtain ⟨tm1, σ1, e1, r1, k1, g1⟩ := it39 Y hn (x := (turnS t).1) (is := (turnS t).2) hl (fun h => hx _ (by simp [rulesS, h])) hR h2 (hc _ _ hR) hy hf (.inl ⟨rfl, rfl⟩) hb1
  rw [pc2_39]
  have hgc : (!(mkE (m + 3) 39 false).H.keep (mkE (m + 3) 39 false).fid) = false := by simp
  have hK : (mkE (m + 3) 39 false).K = m + 3 := rfl
  simp only [codeA_block, codeA_loop, hgc, hK]
  rw [loopA_succ, e1]
  by_cases hs1 : (turnS t).2 = true ∧ (step a (turnS t).1).2 = false
  · have hrun : runY step a (rulesS t) = ((step a (turnS t).1).1, false) := by simp [rulesS, hs1.1, runY, hs1.2]
    rw [hrun]
    simp only [hs1.1, if_true] at r1
    refine ⟨tm1, σ1, ?_, r1, k1, fun h => by simp at h⟩
    simp [hs1.1, hs1.2]
  · have hok : (turnS t).2 = false ∨ (step a (turnS t).1).2 = true := by
      cases h : (turnS t).2 <;> cases h' : (step a (turnS t).1).2 <;> simp_all
    have hif : (if ((turnS t).2 && !(step a (turnS t).1).2) = true then Ex.ret else Ex.normal) = .normal := by
      rcases hok with h | h <;> simp [h]
    rw [hif]
    simp only [loopK_normal, Bool.false_eq_true, if_false]
    have hl1 : live (kk + 1) (if (turnS t).2 = true then (step a (turnS t).1).1 else a) := by
      cases h : (turnS t).2 with
      | false => simpa using Y.mono _ _ hl
      | true => simp only [if_true]; exact Y.go _ a _ hl (by simpa [h] using hok)
    obtain ⟨tm2, σ2, e2, r2, k2, g2⟩ := it39 Y hn (x := (moveS t).1) (is := (moveS t).2) hl1 (fun h => hx _ (by simp [rulesS, h])) r1 h2 (hc _ _ r1) (k1.get h2 hy) (g1 hok) (.inr ⟨rfl, rfl⟩) hb2
    rw [loopA_succ, e2]
    generalize ha1 : (if (turnS t).2 = true then (step a (turnS t).1).1 else a) = a1 at *
    have hrun : runY step a (rulesS t) = runY step a1 (if (moveS t).2 then [(moveS t).1] else []) := by
      rw [← ha1]
      unfold rulesS
      rw [runY_app]
      cases h : (turnS t).2 with
      | false => simp [runY]
      | true =>
        have : (step a (turnS t).1).2 = true := by simpa [h] using hok
        simp [runY, this]
    by_cases hs2 : (moveS t).2 = true ∧ (step a1 (moveS t).1).2 = false
    · have hrun2 : runY step a (rulesS t) = ((step a1 (moveS t).1).1, false) := by rw [hrun]; simp [hs2.1, runY, hs2.2]
      rw [hrun2]
      simp only [hs2.1, if_true] at r2
      refine ⟨tm2, σ2, ?_, r2, k1.trans k2, fun h => by simp at h⟩
      simp [hs2.1, hs2.2]
    · have hok2 : (moveS t).2 = false ∨ (step a1 (moveS t).1).2 = true := by
        cases h : (moveS t).2 <;> cases h' : (step a1 (moveS t).1).2 <;> simp_all
      have hif2 : (if ((moveS t).2 && !(step a1 (moveS t).1).2) = true then Ex.ret else Ex.normal) = .normal := by
        rcases hok2 with h | h <;> simp [h]
      rw [hif2]
      simp only [loopK_normal, Bool.false_eq_true, if_false]
      obtain ⟨tm3, e3, w1, w2⟩ := end39 (m := m + 3) (σ := σ2) (g2 hok2)
      rw [loopA_succ, e3]
      have hrun2 : runY step a (rulesS t) = (if (moveS t).2 = true then (step a1 (moveS t).1).1 else a1, true) := by
        rw [hrun]
        cases h : (moveS t).2 with
        | false => simp [runY]
        | true =>
          have : (step a1 (moveS t).1).2 = true := by simpa [h] using hok2
          simp [runY, this]
      rw [hrun2]
      refine ⟨tm3, σ2, ?_, r2, k1.trans k2, fun _ => ⟨w1, w2⟩⟩
      simp

@[simp] theorem codeA_range (E : Env) (nt : Nat) (f : Operand) (ps : Array Nat) (ac bd : Code) (s : ASt) : codeA E nt (.rangeFunc f ps ac bd) s = match evA s.tm f with
    | some fv => rangeA E fv ps ac bd s
    | none => none := rfl

def bud : BT → Nat
  | .lf _ => 0
  | .jn a b => 2 + bud a + bud b
theorem rulesS_len (t : BT) : (rulesS t).length ≤ 2 := by
  unfold rulesS
  split <;> split <;> simp
theorem eachS_len : ∀ t : BT, (eachS t).length ≤ bud t
  | .lf i => by simp [eachS, bud]
  | .jn a b => by
    have h1 := eachS_len a
    have h2 := eachS_len b
    simp only [eachS, List.length_append, List.length_map, bud, List.length_singleton]
    split <;> simp <;> omega

/-- The iterator does its work. -/
def EachOK (t : BT) : Prop := ∃ N, ∀ {n0 id k0 : Nat} {α : Type} {live : Nat → α → Prop} {R : α → Store → Prop} {step : α → BT → α × Bool} {okx : BT → Prop}, YOK n0 id k0 live R step okx → ∀ n, N + n0 ≤ n →
  ∀ (a : α) (σ : Store) (c : Nat), live (bud t) a → R a σ → (∀ a σ, R a σ → σ[c]? = some (.box (t.enc.cells.map .p))) → (∀ x ∈ eachS t, okx x) →
    ∃ σ', invA TP HT n (.fn 39 [] [.ptr c 0]) [.yld id] σ = some (.tup [], σ') ∧ R (runY step a (eachS t)).1 σ' ∧ Keep k0 σ σ'

theorem runY_map {α : Type} (step : α → BT → α × Bool) (g : BT → BT) : ∀ (l : List BT) (a : α),
    runY (fun (s : α × Bool) x => (((step s.1 (g x)).1, !(step s.1 (g x)).2), (step s.1 (g x)).2)) (a, false) l = (((runY step a (l.map g)).1, !(runY step a (l.map g)).2), (runY step a (l.map g)).2)
  | [], a => by simp [runY]
  | x :: l, a => by
    simp only [runY, List.map_cons]
    cases h : (step a (g x)).2 with
    | true => simp only [if_true, Bool.not_true]; exact runY_map step g l _
    | false => simp

theorem range_out {E : Env} {fv : AV} {ps : Array Nat} {ac bd : Code} {tm : Nat → AV} {σ σ2 : Store} {v : AV} {s : Bool} (hin : E.inR = false) (hfn : isFn fv = true) (hi : E.inv fv [.yld σ.length] (σ ++ [.loop .ready none tm ps.toList ac bd E.fid]) = some (v, σ2))
    (ho : σ2[σ.length]? = some (.loop (if s then .done else .ready) (if s then some .ret else none) tm ps.toList ac bd E.fid)) :
    rangeA E fv ps ac bd ⟨tm, σ⟩ = some (if s then .ret else .normal, ⟨tm, σ2.set σ.length (.loop .exhausted (if s then some .ret else none) tm ps.toList ac bd E.fid)⟩) := by
  unfold rangeA
  simp only [hin, hfn, Bool.not_true, Bool.or_self, Bool.false_eq_true, if_false, hi, ho]
  cases s <;> rfl

theorem range39a {a0 b : BT} (hE : EachOK a0) : ∃ N, ∀ {n0 id k0 : Nat} {α : Type} {live : Nat → α → Prop} {R : α → Store → Prop} {step : α → BT → α × Bool} {okx : BT → Prop}, YOK n0 id k0 live R step okx → ∀ m, N + n0 ≤ m →
    ∀ (a : α) (σ : Store) (c y bx : Nat) (tm : Nat → AV), live (bud a0) a → R a σ → k0 ≤ c → k0 ≤ y → k0 ≤ bx → σ[c]? = some (.box (a0.enc.cells.map .p)) → σ[y]? = some (.box [.yld id]) → σ[bx]? = some (.box (b.enc.cells.map .p)) →
      tm 42 = .fn 39 [] [.ptr c 0] → tm 2 = .ptr y 0 → tm 8 = .ptr bx 0 → (∀ x ∈ eachS a0, okx (.jn x b)) →
      ∃ σ', codeA (mkE m 39 false) 59 (pc Try.f39 7) ⟨tm, σ⟩ = some (if (runY step a ((eachS a0).map (fun x => .jn x b))).2 then .normal else .ret, ⟨tm, σ'⟩) ∧ R (runY step a ((eachS a0).map (fun x => .jn x b))).1 σ' ∧ Keep k0 σ σ' := by
  obtain ⟨N, hE⟩ := hE
  refine ⟨N + 9, fun {n0 id k0 α live R step okx} Y m hm a σ c y bx tm hl hR h1 h2 h3 hc hy hb t42 t2 t8 hx => ?_⟩
  have hcl : c < σ.length := (List.getElem?_eq_some_iff.1 hc).1
  have hyl : y < σ.length := (List.getElem?_eq_some_iff.1 hy).1
  have hbl : bx < σ.length := (List.getElem?_eq_some_iff.1 hb).1
  have hk := Y.len a σ hR
  let L : Bool → AObj := fun s => .loop (if s then .done else .ready) (if s then some .ret else none) tm [43] (rng Try.f39 0).1 (rng Try.f39 0).2 39
  let R' : α × Bool → Store → Prop := fun p σ' => R p.1 σ' ∧ σ'[σ.length]? = some (L p.2) ∧ ∀ j, k0 ≤ j → j < σ.length → σ'[j]? = σ[j]?
  have Y' : YOK (n0 + 9) σ.length (σ.length + 1) (fun k (p : α × Bool) => live k p.1 ∧ p.2 = false) R' (fun s x => (((step s.1 (.jn x b)).1, !(step s.1 (.jn x b)).2), (step s.1 (.jn x b)).2)) (fun x => okx (.jn x b)) := by
    refine ⟨fun p σ' h => (List.getElem?_eq_some_iff.1 h.2.1).1, fun p σ' σ'' h hs => ⟨Y.frame _ _ _ h.1 fun j hj => hs j (by omega), ?_, ?_⟩, fun n hn kk p x σ' hlp hox h => ?_, fun kk p x hlp hgo => ⟨Y.go kk _ _ hlp.1 hgo, by simpa using hgo⟩, fun kk p hlp => ⟨Y.mono _ _ hlp.1, hlp.2⟩⟩
    · rw [hs _ (by omega)]; exact h.2.1
    · intro j hj1 hj2
      rw [hs _ (by omega)]; exact h.2.2 j hj1 hj2
    · obtain ⟨p1, p2⟩ := p
      obtain ⟨hl1, hl2⟩ := hlp
      simp only at hl1 hl2 hox
      subst hl2
      obtain ⟨hr1, hr2, hr3⟩ := h
      have hlt := (List.getElem?_eq_some_iff.1 hr2).1
      obtain ⟨σ3, q1, q2, q3, q4, q5⟩ := round39a Y hn hl1 hox hr1 (by omega) h2 h3 hr2 (by rw [hr3 y h2 hyl]; exact hy) (by rw [hr3 bx h3 hbl]; exact hb) t2 t8
      refine ⟨σ3, q1, ⟨q2, ?_, fun j hj1 hj2 => ?_⟩, fun j hj1 hj2 => q5 j (by omega) hj2 (by omega), q3⟩
      · rw [q4]
        cases (step p1 (x.jn b)).2 <;> rfl
      · rw [q5 j hj1 (by omega) (by omega)]; exact hr3 j hj1 hj2
  have hRp : R' (a, false) (σ ++ [L false]) :=
    ⟨Y.frame a σ _ hR fun j hj => List.getElem?_append_left (by omega), by rw [List.getElem?_append_right (by omega)]; simp, fun j _ hj => List.getElem?_append_left hj⟩
  obtain ⟨σ2, e1, e2, e3⟩ := hE Y' m (by omega) (a, false) (σ ++ [L false]) c ⟨hl, rfl⟩ hRp (fun _ _ h => by rw [h.2.2 c h1 hcl]; exact hc) hx
  rw [runY_map] at e2
  obtain ⟨q1, q2, q3⟩ := e2
  have hro := range_out (E := mkE m 39 false) (fv := .fn 39 [] [.ptr c 0]) (ps := #[43]) (ac := (rng Try.f39 0).1) (bd := (rng Try.f39 0).2) (tm := tm) rfl rfl e1 q2
  refine ⟨σ2.set σ.length (.loop .exhausted (if !(runY step a ((eachS a0).map (fun x => .jn x b))).2 then some .ret else none) tm [43] (rng Try.f39 0).1 (rng Try.f39 0).2 39), ?_, ?_, ?_⟩
  · have hpc : pc Try.f39 7 = .block 2 (.rangeFunc (.tmp 42) #[43] (rng Try.f39 0).1 (rng Try.f39 0).2) := by rfl
    rw [hpc, codeA_block, codeA_range]
    simp only [evA_tmp, t42, hro]
    cases (runY step a ((eachS a0).map (fun x => .jn x b))).2 <;> rfl
  · exact Y.frame _ σ2 _ q1 fun j hj => List.getElem?_set_ne (by omega)
  · have hlen := e3.2
    simp only [List.length_append, List.length_singleton] at hlen
    refine ⟨fun j hj1 hj2 => ?_, by simp; omega⟩
    rw [List.getElem?_set_ne (by omega)]
    exact q3 j hj1 hj2

theorem range39b {a0 b : BT} (hE : EachOK a0) : ∃ N, ∀ {n0 id k0 : Nat} {α : Type} {live : Nat → α → Prop} {R : α → Store → Prop} {step : α → BT → α × Bool} {okx : BT → Prop}, YOK n0 id k0 live R step okx → ∀ m, N + n0 ≤ m →
    ∀ (a : α) (σ : Store) (c y bx : Nat) (tm : Nat → AV), live (bud a0) a → R a σ → k0 ≤ c → k0 ≤ y → k0 ≤ bx → σ[c]? = some (.box (a0.enc.cells.map .p)) → σ[y]? = some (.box [.yld id]) → σ[bx]? = some (.box (b.enc.cells.map .p)) →
      tm 51 = .fn 39 [] [.ptr c 0] → tm 2 = .ptr y 0 → tm 7 = .ptr bx 0 → (∀ x ∈ eachS a0, okx (.jn b x)) →
      ∃ σ', codeA (mkE m 39 false) 59 (pc Try.f39 9) ⟨tm, σ⟩ = some (if (runY step a ((eachS a0).map (fun x => .jn b x))).2 then .normal else .ret, ⟨tm, σ'⟩) ∧ R (runY step a ((eachS a0).map (fun x => .jn b x))).1 σ' ∧ Keep k0 σ σ' := by
  obtain ⟨N, hE⟩ := hE
  refine ⟨N + 9, fun {n0 id k0 α live R step okx} Y m hm a σ c y bx tm hl hR h1 h2 h3 hc hy hb t51 t2 t8 hx => ?_⟩
  have hcl : c < σ.length := (List.getElem?_eq_some_iff.1 hc).1
  have hyl : y < σ.length := (List.getElem?_eq_some_iff.1 hy).1
  have hbl : bx < σ.length := (List.getElem?_eq_some_iff.1 hb).1
  have hk := Y.len a σ hR
  let L : Bool → AObj := fun s => .loop (if s then .done else .ready) (if s then some .ret else none) tm [52] (rng Try.f39 1).1 (rng Try.f39 1).2 39
  let R' : α × Bool → Store → Prop := fun p σ' => R p.1 σ' ∧ σ'[σ.length]? = some (L p.2) ∧ ∀ j, k0 ≤ j → j < σ.length → σ'[j]? = σ[j]?
  have Y' : YOK (n0 + 9) σ.length (σ.length + 1) (fun k (p : α × Bool) => live k p.1 ∧ p.2 = false) R' (fun s x => (((step s.1 (.jn b x)).1, !(step s.1 (.jn b x)).2), (step s.1 (.jn b x)).2)) (fun x => okx (.jn b x)) := by
    refine ⟨fun p σ' h => (List.getElem?_eq_some_iff.1 h.2.1).1, fun p σ' σ'' h hs => ⟨Y.frame _ _ _ h.1 fun j hj => hs j (by omega), ?_, ?_⟩, fun n hn kk p x σ' hlp hox h => ?_, fun kk p x hlp hgo => ⟨Y.go kk _ _ hlp.1 hgo, by simpa using hgo⟩, fun kk p hlp => ⟨Y.mono _ _ hlp.1, hlp.2⟩⟩
    · rw [hs _ (by omega)]; exact h.2.1
    · intro j hj1 hj2
      rw [hs _ (by omega)]; exact h.2.2 j hj1 hj2
    · obtain ⟨p1, p2⟩ := p
      obtain ⟨hl1, hl2⟩ := hlp
      simp only at hl1 hl2 hox
      subst hl2
      obtain ⟨hr1, hr2, hr3⟩ := h
      have hlt := (List.getElem?_eq_some_iff.1 hr2).1
      obtain ⟨σ3, q1, q2, q3, q4, q5⟩ := round39b Y hn hl1 hox hr1 (by omega) h2 h3 hr2 (by rw [hr3 y h2 hyl]; exact hy) (by rw [hr3 bx h3 hbl]; exact hb) t2 t8
      refine ⟨σ3, q1, ⟨q2, ?_, fun j hj1 hj2 => ?_⟩, fun j hj1 hj2 => q5 j (by omega) hj2 (by omega), q3⟩
      · rw [q4]
        cases (step p1 (b.jn x)).2 <;> rfl
      · rw [q5 j hj1 (by omega) (by omega)]; exact hr3 j hj1 hj2
  have hRp : R' (a, false) (σ ++ [L false]) :=
    ⟨Y.frame a σ _ hR fun j hj => List.getElem?_append_left (by omega), by rw [List.getElem?_append_right (by omega)]; simp, fun j _ hj => List.getElem?_append_left hj⟩
  obtain ⟨σ2, e1, e2, e3⟩ := hE Y' m (by omega) (a, false) (σ ++ [L false]) c ⟨hl, rfl⟩ hRp (fun _ _ h => by rw [h.2.2 c h1 hcl]; exact hc) hx
  rw [runY_map] at e2
  obtain ⟨q1, q2, q3⟩ := e2
  have hro := range_out (E := mkE m 39 false) (fv := .fn 39 [] [.ptr c 0]) (ps := #[52]) (ac := (rng Try.f39 1).1) (bd := (rng Try.f39 1).2) (tm := tm) rfl rfl e1 q2
  refine ⟨σ2.set σ.length (.loop .exhausted (if !(runY step a ((eachS a0).map (fun x => .jn b x))).2 then some .ret else none) tm [52] (rng Try.f39 1).1 (rng Try.f39 1).2 39), ?_, ?_, ?_⟩
  · have hpc : pc Try.f39 9 = .block 4 (.rangeFunc (.tmp 51) #[52] (rng Try.f39 1).1 (rng Try.f39 1).2) := by rfl
    rw [hpc, codeA_block, codeA_range]
    simp only [evA_tmp, t51, hro]
    cases (runY step a ((eachS a0).map (fun x => .jn b x))).2 <;> rfl
  · exact Y.frame _ σ2 _ q1 fun j hj => List.getElem?_set_ne (by omega)
  · have hlen := e3.2
    simp only [List.length_append, List.length_singleton] at hlen
    refine ⟨fun j hj1 hj2 => ?_, by simp; omega⟩
    rw [List.getElem?_set_ne (by omega)]
    exact q3 j hj1 hj2

@[simp] theorem evA_nilFunc (tm : Nat → AV) : evA tm (.const .nilFunc) = some (.p (.val .nilFunc)) := rfl

theorem each29 (n : Nat) (t : BT) (σ : Store) : invA TP HT (n + 1) (.fn 29 [] []) [.p t.enc] σ = some (.fn 39 [] [.ptr σ.length 0], σ ++ [.box (t.enc.cells.map .p)]) := by
  obtain ⟨o, l, ht⟩ := enc_form t
  rw [inv_run fn29]
  simp -implicitDefEqProofs [bodyR, Try.f29, argTm, ht]

def okAll : BT → Bool
  | .lf i => (BT.lf i).ok
  | .jn a b => (BT.jn a b).ok && okAll a && okAll b

theorem okAll_ok : ∀ {t : BT}, okAll t = true → t.ok = true
  | .lf i, h => h
  | .jn a b, h => by simp only [okAll, Bool.and_eq_true] at h; exact h.1.1

theorem eachS_jn (a b : BT) : eachS (.jn a b) = rulesS (.jn a b) ++ (eachS a).map (fun x => .jn x b) ++ (eachS b).map (fun x => .jn a x) := by
  simp [eachS, rulesS, turnS]

theorem ret39 (e : Ex) (he : e = .normal ∨ e = .ret) (s : ASt) : retA TP Try.f39.results.toList (some (e, s)) = some (.tup [], s.st) := by
  rcases he with rfl | rfl <;> rfl

set_option maxHeartbeats 4000000 in
theorem each_ok : ∀ (t : BT), okAll t = true → EachOK t
  | .lf i, hok => by
    obtain ⟨N, h⟩ := each_lf i hok
    refine ⟨N, fun {n0 id k0 α live R step okx} Y n hn a σ c hl hR hc hx => ?_⟩
    obtain ⟨G, hG⟩ := h n (by omega) σ id c (by have := hc a σ hR; simpa [enc_lf] using this)
    have hk := Y.len a σ hR
    exact ⟨σ ++ G, hG, Y.frame a σ _ hR fun j hj => List.getElem?_append_left (by omega), Keep.app _ _ _⟩
  | .jn a b, hok => by
    have hok' := okAll_ok hok
    simp only [okAll, Bool.and_eq_true] at hok
    obtain ⟨N1, h1⟩ := range39a (b := b) (each_ok a hok.1.2)
    obtain ⟨N2, h2⟩ := range39b (b := a) (each_ok b hok.2)
    obtain ⟨N3, b1⟩ := by_yes (.jn a b) _ _ 31 hok' (by decide) (turn_ev (.jn a b))
    obtain ⟨N4, b2⟩ := by_yes (.jn a b) _ _ 34 hok' (by decide) (move_ev (.jn a b))
    obtain ⟨N5, tw⟩ := two_ev (.jn a b)
    refine ⟨N1 + N2 + N3 + N4 + N5 + 9, fun {n0 id k0 α live R step okx} Y n hn a0 σ c hl hR hc hx => ?_⟩
    obtain ⟨m, rfl⟩ : ∃ m, n = m + 3 + 1 := ⟨n - 4, by omega⟩
    have b1 := b1 (m + 3) (by omega)
    have b2 := b2 (m + 3) (by omega)
    have tw := tw (m + 3) (by omega)
    have hk := Y.len a0 σ hR
    obtain ⟨oa, la, ha⟩ := enc_form a
    obtain ⟨ob, lb, hb⟩ := enc_form b
    have hnt : Try.f39.ntmps = 59 := rfl
    have hbp := bodyR_pcs (m + 3) 39 Try.f39 [.yld id, .ptr c 0] σ rfl (by rw [hnt]; show 2 ≤ 59; omega) (by decide)
    rw [fn39_run, hbp, pcs39, hnt]
    rw [eachS_jn] at hx ⊢
    let σ1 : Store := σ ++ [.box [.yld id]]
    have hp1 : ∃ tm1, runS (mkE (m + 3) 39 false) 59 [pc Try.f39 0, pc Try.f39 1] ⟨argTm [.yld id, .ptr c 0], σ⟩ = some (.normal, ⟨tm1, σ1⟩) ∧ Fr39 tm1 c σ.length 0 := by
      simp -implicitDefEqProofs [runS, pc, pcs, seqsC, Try.f39, argTm, σ1, Fr39, ruV, iV]
    obtain ⟨tm1, hp1, hfr⟩ := hp1
    have hR1 : R a0 σ1 := Y.frame a0 σ _ hR fun j hj => List.getElem?_append_left (by omega)
    have hy1 : σ1[σ.length]? = some (.box [.yld id]) := by simp [σ1]
    have hk1 : Keep k0 σ σ1 := Keep.app _ _ _
    obtain ⟨tm2, σ2, e2, r2, k2, g2⟩ := lp39 Y (m := m) (by omega) (t := .jn a b) (kk := bud a + bud b) (Y.le hl (by simp only [bud]; omega)) (fun x h => hx x (by simp [h])) hR1 hk hc hy1 hfr b1 b2
    have split2 : ∀ (r : List Code) (s : ASt), runS (mkE (m + 3) 39 false) 59 (pc Try.f39 0 :: pc Try.f39 1 :: r) s = seqR (runS (mkE (m + 3) 39 false) 59 [pc Try.f39 0, pc Try.f39 1] s) (runS (mkE (m + 3) 39 false) 59 r) := fun r s => runS_app _ _ [_, _] r s
    rw [split2, hp1, seqR_normal]
    rw [runS, e2]
    rw [List.append_assoc, runY_app]
    cases hs2 : (runY step a0 (rulesS (.jn a b))).2 with
    | false =>
      simp only [Bool.false_eq_true, if_false, seqR_ret]
      exact ⟨σ2, ret39 _ (.inr rfl) _, r2, hk1.trans k2⟩
    | true =>
      simp only [if_true, seqR_normal]
      obtain ⟨w1, w2⟩ := g2 hs2
      generalize ha1 : (runY step a0 (rulesS (.jn a b))).1 = a1 at *
      have hl1 : live (bud a + bud b) a1 := by
        rw [← ha1]
        exact Y.after _ (Y.le hl (by have := rulesS_len (.jn a b); simp only [bud]; omega)) hs2
      have hc2 := hc _ _ r2
      have hy2 := k2.get hk hy1
      let σ3 : Store := σ2 ++ [.box (a.enc.cells.map .p), .box (b.enc.cells.map .p), .box (a.enc.cells.map .p)]
      have hcl : c < σ2.length := (List.getElem?_eq_some_iff.1 hc2).1
      have hc3 := (List.getElem?_eq_some_iff.1 hc2).2
      have hE := each29 (m + 2) a (σ2 ++ [.box (a.enc.cells.map .p), .box (b.enc.cells.map .p)])
      simp only [twoS, enc_jn, bV, ha, hb] at tw
      have hp3 : ∃ tm3, runS (mkE (m + 3) 39 false) 59 [pc Try.f39 3, pc Try.f39 4, pc Try.f39 5, pc Try.f39 6] ⟨tm2, σ2⟩ = some (.normal, ⟨tm3, σ3⟩) ∧ tm3 42 = .fn 39 [] [.ptr (σ2.length + 2) 0] ∧ tm3 2 = .ptr σ.length 0 ∧ tm3 8 = .ptr (σ2.length + 1) 0 ∧ tm3 7 = .ptr σ2.length 0 := by
        simp only [ha, hb, enc_jn, PV.cells, List.map] at hE hc3
        simp only [σ3, ha, hb]
        simp -implicitDefEqProofs [runS, pc, pcs, seqsC, Try.f39, w1, w2, hcl, hc3, tw, hE, List.getElem?_append, List.set_append]
      obtain ⟨tm3, hp3, u42, u2, u8, u7⟩ := hp3
      have hk2l : k0 ≤ σ2.length := Nat.le_trans hk (Nat.le_trans (by simp [σ1]) k2.2)
      have hk3 : Keep k0 σ2 σ3 := Keep.app _ _ _
      have hR3 : R a1 σ3 := Y.frame a1 σ2 _ r2 fun j hj => List.getElem?_append_left (by omega)
      have i0 : σ3[σ2.length]? = some (.box (a.enc.cells.map .p)) := by simp [σ3]
      have i1 : σ3[σ2.length + 1]? = some (.box (b.enc.cells.map .p)) := by simp [σ3, List.getElem?_append]
      have i2 : σ3[σ2.length + 2]? = some (.box (a.enc.cells.map .p)) := by simp [σ3, List.getElem?_append]
      obtain ⟨σ4, e4, r4, k4⟩ := h1 Y (m + 3) (by omega) a1 σ3 (σ2.length + 2) σ.length (σ2.length + 1) tm3 (Y.le hl1 (by omega)) hR3 (by omega) hk (by omega) i2 (hk3.get hk hy2) i1 u42 u2 u8 (fun x hxx => hx _ (by simp; exact .inr (.inl hxx)))
      have split4 : ∀ (r : List Code) (s : ASt), runS (mkE (m + 3) 39 false) 59 (pc Try.f39 3 :: pc Try.f39 4 :: pc Try.f39 5 :: pc Try.f39 6 :: r) s = seqR (runS (mkE (m + 3) 39 false) 59 [pc Try.f39 3, pc Try.f39 4, pc Try.f39 5, pc Try.f39 6] s) (runS (mkE (m + 3) 39 false) 59 r) := fun r s => runS_app _ _ [_, _, _, _] r s
      rw [split4, hp3, seqR_normal, runS, e4, runY_app]
      cases hs4 : (runY step a1 ((eachS a).map (fun x => .jn x b))).2 with
      | false =>
        simp only [Bool.false_eq_true, if_false, seqR_ret]
        exact ⟨σ4, ret39 _ (.inr rfl) _, r4, ((hk1.trans k2).trans hk3).trans k4⟩
      | true =>
        simp only [if_true, seqR_normal]
        have hl4 : live (bud b) (runY step a1 ((eachS a).map (fun x => .jn x b))).1 := 
          Y.after _ (Y.le hl1 (by have := eachS_len a; simp only [List.length_map]; omega)) hs4
        generalize ha4 : (runY step a1 ((eachS a).map (fun x => BT.jn x b))).1 = a4 at *
        have j1 := k4.get (by omega) i1
        have j0 := k4.get hk2l i0
        have jy := k4.get hk (hk3.get hk hy2)
        have hj1l : σ2.length + 1 < σ4.length := (List.getElem?_eq_some_iff.1 j1).1
        have hj12 := (List.getElem?_eq_some_iff.1 j1).2
        let σ5 : Store := σ4 ++ [.box (b.enc.cells.map .p)]
        have hE5 := each29 (m + 2) b σ4
        have hp5 : ∃ tm5, codeA (mkE (m + 3) 39 false) 59 (pc Try.f39 8) ⟨tm3, σ4⟩ = some (.normal, ⟨tm5, σ5⟩) ∧ tm5 51 = .fn 39 [] [.ptr σ4.length 0] ∧ tm5 2 = .ptr σ.length 0 ∧ tm5 7 = .ptr σ2.length 0 := by
          simp only [ha, hb, enc_jn, PV.cells, List.map] at hE5 hj12
          simp only [σ5, ha, hb]
          simp -implicitDefEqProofs [pc, pcs, seqsC, Try.f39, u2, u7, u8, hj1l, hj12, hE5]
        obtain ⟨tm5, hp5, v51, v2, v7⟩ := hp5
        have hk5 : Keep k0 σ4 σ5 := Keep.app _ _ _
        have hk4l : k0 ≤ σ4.length := Nat.le_trans hk2l (Nat.le_trans hk3.2 k4.2)
        have hR5 : R a4 σ5 := Y.frame a4 σ4 _ r4 fun j hj => List.getElem?_append_left (by omega)
        obtain ⟨σ6, e6, r6, k6⟩ := h2 Y (m + 3) (by omega) a4 σ5 σ4.length σ.length σ2.length tm5 hl4 hR5 (by omega) hk hk2l (by simp [σ5]) (hk5.get hk jy) (hk5.get hk2l j0) v51 v2 v7 (fun x hxx => hx _ (by simp; exact .inr (.inr hxx)))
        rw [runS, hp5, seqR_normal, runS, e6]
        refine ⟨σ6, ?_, r6, ((((hk1.trans k2).trans hk3).trans k4).trans hk5).trans k6⟩
        cases (runY step a4 ((eachS b).map (fun x => .jn a x))).2 with
        | true => exact ret39 _ (.inl rfl) _
        | false => exact ret39 _ (.inr rfl) _

end Go.Ab
