/-
  The iterator.
-/
import Derived.Test.YtlgjecmpmifjpaaR1c
set_option linter.unusedVariables false
set_option linter.unusedSimpArgs false
namespace Go.Ab
open Go.Proofs

attribute [simp] sharedEff

theorem fn39_run (n : Nat) (id c : Nat) (σ : Store) : invA TP HT (n + 1) (.fn 39 [] [.ptr c 0]) [.yld id] σ = bodyR n 39 Try.f39 [.yld id, .ptr c 0] σ := by
  rw [inv_run fn39]; rfl

theorem bt_zero : BT.enc zT = .agg [.val (.int .i64 0), .list []] := encz

set_option maxHeartbeats 4000000 in
theorem each_lf (i : Nat) (hok : (BT.lf i).ok = true) : ∃ N, ∀ n, N ≤ n → ∀ (σ : Store) (id c : Nat), σ[c]? = some (.box [.p (.val (.int .i64 i)), .p (.list [])]) →
    ∃ G, invA TP HT n (.fn 39 [] [.ptr c 0]) [.yld id] σ = some (.tup [], σ ++ G) := by
  obtain ⟨N1, h1⟩ := by_yes (.lf i) _ _ 31 hok (by decide) (turn_ev (.lf i))
  obtain ⟨N2, h2⟩ := by_yes (.lf i) _ _ 34 hok (by decide) (move_ev (.lf i))
  obtain ⟨N3, h3⟩ := two_ev (.lf i)
  refine ⟨N1 + N2 + N3 + 9, fun n hn σ id c hc => ?_⟩
  obtain ⟨m, rfl⟩ : ∃ m, n = m + 9 := ⟨n - 9, by omega⟩
  have h1 := h1 (m + 8) (by omega)
  have h2 := h2 (m + 8) (by omega)
  have h3 := h3 (m + 8) (by omega)
  have hcl : c < σ.length := (List.getElem?_eq_some_iff.1 hc).1
  have hc2 : σ[c] = .box [.p (.val (.int .i64 i)), .p (.list [])] := (List.getElem?_eq_some_iff.1 hc).2
  simp only [turnS, moveS, twoS, enc_lf, bV, ruV] at h1 h2 h3
  rw [fn39_run]
  simp -implicitDefEqProofs [bodyR, Try.f39, argTm, List.getElem?_append, List.set_append, hc, hc2, hcl, h1, h2, h3]

def eachS : BT → List BT
  | .lf _ => []
  | .jn a b => [.jn b a] ++ (if (moveS (.jn a b)).2 then [(moveS (.jn a b)).1] else []) ++ (eachS a).map (fun x => .jn x b) ++ (eachS b).map (fun x => .jn a x)

/-- A consumer, run over a list till it has enough. -/
def runY {α : Type} (step : α → BT → α × Bool) (a : α) : List BT → α × Bool
  | [] => (a, true)
  | x :: xs => if (step a x).2 then runY step (step a x).1 xs else ((step a x).1, false)

theorem runY_app {α : Type} (step : α → BT → α × Bool) (a : α) : ∀ (l r : List BT), runY step a (l ++ r) = if (runY step a l).2 then runY step (runY step a l).1 r else runY step a l := by
  intro l r
  induction l generalizing a with
  | nil => simp [runY]
  | cons x l ih =>
    simp only [List.cons_append, runY]
    split
    · exact ih _
    · simp

/-- What a loop's body does when it is handed a tree. -/
structure YOK (n0 id k0 : Nat) {α : Type} (live : Nat → α → Prop) (R : α → Store → Prop) (step : α → BT → α × Bool) (okx : BT → Prop) : Prop where
  len : ∀ a σ, R a σ → k0 ≤ σ.length
  frame : ∀ a σ σ', R a σ → (∀ j, j < k0 → σ'[j]? = σ[j]?) → R a σ'
  run : ∀ n, n0 ≤ n → ∀ k a x σ, live (k + 1) a → okx x → R a σ → ∃ σ', invA TP HT n (.yld id) [.p x.enc] σ = some (boolA (step a x).2, σ') ∧ R (step a x).1 σ' ∧ (∀ j, k0 ≤ j → j < σ.length → σ'[j]? = σ[j]?) ∧ σ.length ≤ σ'.length
  go : ∀ k a x, live (k + 1) a → (step a x).2 = true → live k (step a x).1
  mono : ∀ k a, live (k + 1) a → live k a

theorem YOK.le {n0 id k0 : Nat} {α : Type} {live : Nat → α → Prop} {R : α → Store → Prop} {step : α → BT → α × Bool} {okx : BT → Prop} (Y : YOK n0 id k0 live R step okx) {a : α} {j : Nat} : ∀ {k : Nat}, live k a → j ≤ k → live j a
  | 0, h, hj => by obtain rfl : j = 0 := by omega
                   exact h
  | k + 1, h, hj => by
    by_cases e : j = k + 1
    · subst e; exact h
    · exact Y.le (Y.mono k a h) (by omega)

theorem YOK.after {n0 id k0 : Nat} {α : Type} {live : Nat → α → Prop} {R : α → Store → Prop} {step : α → BT → α × Bool} {okx : BT → Prop} (Y : YOK n0 id k0 live R step okx) : ∀ (l : List BT) {a : α} {k : Nat}, live (k + l.length) a → (runY step a l).2 = true → live k (runY step a l).1
  | [], a, k, h, _ => h
  | x :: l, a, k, h, h2 => by
    simp only [runY] at h2 ⊢
    split at h2
    · rename_i hgo
      rw [if_pos hgo]
      exact Y.after l (Y.go (k + l.length) a x (by simpa [Nat.add_assoc] using h) hgo) h2
    · cases h2

def rngsC : Code → List (Code × Code)
  | .seq a b => rngsC a ++ rngsC b
  | .cond _ a b => rngsC a ++ rngsC b
  | .block _ c => rngsC c
  | .loop c => rngsC c
  | .rangeFunc _ _ a b => [(a, b)]
  | _ => []
noncomputable def rng (fn : Func) (k : Nat) : Code × Code := match fn.body with
  | some c => (rngsC c).getD k (.skip, .skip)
  | none => (.skip, .skip)

theorem join_at (n : Nat) (a b : BT) : prA TP HT (n + 1) 37 [a.enc, b.enc] = some (.p (BT.jn a b).enc) := by
  obtain ⟨oa, la, ha⟩ := enc_form a
  obtain ⟨ob, lb, hb⟩ := enc_form b
  rw [pr_run fn37]
  simp -implicitDefEqProofs [bodyR, Try.f37, argTm, enc_jn, ha, hb]

theorem yld_run {n id : Nat} {args : List AV} {σ : Store} {st : LoopState} {pend : Option Code} {tm : Nat → AV} {ps : List Nat} {ac bd : Code} {f : FuncId} {fn : Func} (ho : σ[id]? = some (.loop st pend tm ps ac bd f)) (hf : TP.funcs[f]? = some fn) :
    invA TP HT (n + 1) (.yld id) args σ = roundA (mkE n f true) fn.ntmps id args σ := by
  simp only [invA, ho, hf]
  rfl

def roundOut (σ : Store) (id : Nat) (tm : Nat → AV) (ps : List Nat) (ac bd : Code) (f : FuncId) : Ex → Option (AV × Store)
  | .normal => some (boolA true, σ.set id (.loop .ready none tm ps ac bd f))
  | .ret => some (boolA false, σ.set id (.loop .done (some .ret) tm ps ac bd f))
  | .exit i => some (boolA false, σ.set id (.loop .done (some (.exit i)) tm ps ac bd f))

/-- A round, in three steps. -/
theorem round_run {E : Env} {nt id : Nat} {args : List AV} {σ : Store} {tm : Nat → AV} {ps : List Nat} {ac bd : Code} {f : FuncId} {s1 s2 : ASt} {e : Ex} (ho : σ[id]? = some (.loop .ready none tm ps ac bd f)) (hl : ps.length = args.length) (hp : ps.all (· < nt) = true)
    (h1 : codeA E nt ac ⟨putL tm ps args, σ⟩ = some (.normal, s1)) (h2 : s1.st[id]? = some (.loop .ready none tm ps ac bd f)) (h3 : codeA E nt bd ⟨s1.tm, s1.st.set id (.loop .busy none tm ps ac bd f)⟩ = some (e, s2)) (h4 : s2.st[id]? = some (.loop .busy none tm ps ac bd f)) :
    roundA E nt id args σ = roundOut s2.st id tm ps ac bd f e := by
  simp only [roundA, ho, hl, hp, and_self, if_true, h1, h2, h3, h4]
  cases e <;> rfl

set_option maxHeartbeats 4000000 in
/-- The round of the first inner loop. -/
theorem round39a {n0 id k0 : Nat} {α : Type} {live : Nat → α → Prop} {R : α → Store → Prop} {step : α → BT → α × Bool} {okx : BT → Prop} (Y : YOK n0 id k0 live R step okx) {n id' y bx : Nat} (hn : n0 + 9 ≤ n) {a : α} {x b : BT} {σ : Store} {tm : Nat → AV}
    {kk : Nat} (hl : live (kk + 1) a) (hx : okx (.jn x b)) (hR : R a σ) (h1 : k0 ≤ id') (h2 : k0 ≤ y) (h3 : k0 ≤ bx)
    (ho : σ[id']? = some (.loop .ready none tm [43] (rng Try.f39 0).1 (rng Try.f39 0).2 39)) (hy : σ[y]? = some (.box [.yld id])) (hb : σ[bx]? = some (.box (b.enc.cells.map .p))) (ht2 : tm 2 = .ptr y 0) (ht8 : tm 8 = .ptr bx 0) :
    ∃ σ', invA TP HT n (.yld id') [.p x.enc] σ = some (boolA (step a (.jn x b)).2, σ') ∧ R (step a (.jn x b)).1 σ' ∧ σ.length ≤ σ'.length ∧
      σ'[id']? = some (.loop (if (step a (.jn x b)).2 then .ready else .done) (if (step a (.jn x b)).2 then none else some .ret) tm [43] (rng Try.f39 0).1 (rng Try.f39 0).2 39) ∧ (∀ j, k0 ≤ j → j < σ.length → j ≠ id' → σ'[j]? = σ[j]?) := by
  obtain ⟨m, rfl⟩ : ∃ m, n = m + 9 := ⟨n - 9, by omega⟩
  have hd := dr39
  simp only [regsF, Try.f39, regs, List.map, List.nil_append, List.append_nil, List.cons_append, List.cons.injEq, Prod.mk.injEq, and_true] at hd
  obtain ⟨⟨d1, d2⟩, d3, d4⟩ := hd
  obtain ⟨ox, lx, hxe⟩ := enc_form x
  obtain ⟨ob, lb, hbe⟩ := enc_form b
  have hJ := join_at (m + 7) x b
  have hidl : id' < σ.length := (List.getElem?_eq_some_iff.1 ho).1
  have hyl : y < σ.length := (List.getElem?_eq_some_iff.1 hy).1
  have hbl : bx < σ.length := (List.getElem?_eq_some_iff.1 hb).1
  have hk := Y.len a σ hR
  have hne1 : id' ≠ y := by rintro rfl; rw [ho] at hy; cases hy
  have hne2 : id' ≠ bx := by rintro rfl; rw [ho] at hb; cases hb
  let σ2 : Store := σ.set id' (.loop .busy none tm [43] (rng Try.f39 0).1 (rng Try.f39 0).2 39) ++ [.box [.p (.val (.int .i64 ox)), .p (.list lx)]]
  have hl2 : σ2.length = σ.length + 1 := by simp [σ2]
  have hR2 : R a σ2 := Y.frame a σ σ2 hR fun j hj => by
    simp only [σ2]
    rw [List.getElem?_append_left (by simp; omega), List.getElem?_set_ne (by omega)]
  obtain ⟨σ3, r1, r2, r3, r4⟩ := Y.run (m + 8) (by omega) kk a (.jn x b) σ2 hl hx hR2
  have g2 : σ2[id']? = some (.loop .busy none tm [43] (rng Try.f39 0).1 (rng Try.f39 0).2 39) := by
    simp only [σ2]; rw [List.getElem?_append_left (by simpa using hidl), List.getElem?_set_self hidl]
  have g3 : σ3[id']? = some (.loop .busy none tm [43] (rng Try.f39 0).1 (rng Try.f39 0).2 39) := by
    rw [r3 id' h1 (by omega)]; exact g2
  have gy : σ2[y]? = some (.box [.yld id]) := by
    simp only [σ2]; rw [List.getElem?_append_left (by simpa using hyl), List.getElem?_set_ne hne1]; exact hy
  have gb : σ2[bx]? = some (.box (b.enc.cells.map .p)) := by
    simp only [σ2]; rw [List.getElem?_append_left (by simpa using hbl), List.getElem?_set_ne hne2]; exact hb
  have gx : σ2[σ.length]? = some (.box [.p (.val (.int .i64 ox)), .p (.list lx)]) := by
    simp only [σ2]; rw [List.getElem?_append_right (by simp)]; simp
  let tm1 : Nat → AV := put (put tm (some 43) (.p x.enc)) (some 10) (.ptr σ.length 0)
  have A1 : codeA (mkE (m + 8) 39 true) 59 (rng Try.f39 0).1 ⟨putL tm [43] [.p x.enc], σ⟩ = some (.normal, ⟨tm1, σ ++ [.box [.p (.val (.int .i64 ox)), .p (.list lx)]]⟩) := by
    simp -implicitDefEqProofs [rng, rngsC, Try.f39, putL, hxe, tm1, List.set_append, List.getElem?_append]
  have hset : (σ ++ [AObj.box [.p (.val (.int .i64 ox)), .p (.list lx)]]).set id' (.loop .busy none tm [43] (rng Try.f39 0).1 (rng Try.f39 0).2 39) = σ2 := by
    rw [List.set_append_left _ _ hidl]
  have t2 : tm1 2 = .ptr y 0 := by simp [tm1, ht2]
  have t8 : tm1 8 = .ptr bx 0 := by simp [tm1, ht8]
  have t10 : tm1 10 = .ptr σ.length 0 := by simp [tm1]
  have B1 : ∃ tm3, codeA (mkE (m + 8) 39 true) 59 (rng Try.f39 0).2 ⟨tm1, σ2⟩ = some (if (step a (.jn x b)).2 then .normal else .ret, ⟨tm3, σ3⟩) := by
    simp only [hbe, PV.cells, List.map] at gb
    simp only [hxe, hbe, enc_jn] at hJ r1
    clear_value σ2 tm1
    cases hst : (step a (.jn x b)).2 <;> simp only [hst, boolA] at r1 <;>
      simp -implicitDefEqProofs [rng, rngsC, Try.f39, t2, t8, t10, gy, gb, gx, hJ, r1, d1, d2]
  obtain ⟨tm3, B1⟩ := B1
  have := round_run (E := mkE (m + 8) 39 true) (nt := 59) (args := [.p x.enc]) ho rfl rfl A1 (by rw [List.getElem?_append_left hidl]; exact ho) (by rw [hset]; exact B1) g3
  have hyr := yld_run (n := m + 8) (args := [.p x.enc]) ho fn39
  have hnt : Try.f39.ntmps = 59 := rfl
  rw [hnt, this] at hyr
  have hidl3 : id' < σ3.length := (List.getElem?_eq_some_iff.1 g3).1
  have keep : ∀ O, R (step a (.jn x b)).1 (σ3.set id' O) ∧ σ.length ≤ (σ3.set id' O).length ∧ (σ3.set id' O)[id']? = some O ∧ (∀ j, k0 ≤ j → j < σ.length → j ≠ id' → (σ3.set id' O)[j]? = σ[j]?) := fun O => by
    refine ⟨Y.frame _ σ3 _ r2 fun j hj => List.getElem?_set_ne (by omega), by simp; omega, List.getElem?_set_self hidl3, fun j h1 h2 h3 => ?_⟩
    rw [List.getElem?_set_ne (by omega), r3 j h1 (by omega)]
    simp only [σ2]
    rw [List.getElem?_append_left (by simpa using h2), List.getElem?_set_ne (by omega)]
  cases hst : (step a (.jn x b)).2 with
  | true =>
    simp only [hst, if_true, Bool.false_eq_true, if_false, roundOut] at hyr
    obtain ⟨k1, k2, k3, k4⟩ := keep (.loop .ready none tm [43] (rng Try.f39 0).1 (rng Try.f39 0).2 39)
    exact ⟨_, hyr, k1, k2, k3, k4⟩
  | false =>
    simp only [hst, if_true, Bool.false_eq_true, if_false, roundOut] at hyr
    obtain ⟨k1, k2, k3, k4⟩ := keep (.loop .done (some .ret) tm [43] (rng Try.f39 0).1 (rng Try.f39 0).2 39)
    exact ⟨_, hyr, k1, k2, k3, k4⟩

set_option maxHeartbeats 4000000 in
/-- The round of the second inner loop. -/
theorem round39b {n0 id k0 : Nat} {α : Type} {live : Nat → α → Prop} {R : α → Store → Prop} {step : α → BT → α × Bool} {okx : BT → Prop} (Y : YOK n0 id k0 live R step okx) {n id' y bx : Nat} (hn : n0 + 9 ≤ n) {a : α} {x b : BT} {σ : Store} {tm : Nat → AV}
    {kk : Nat} (hl : live (kk + 1) a) (hx : okx (.jn b x)) (hR : R a σ) (h1 : k0 ≤ id') (h2 : k0 ≤ y) (h3 : k0 ≤ bx)
    (ho : σ[id']? = some (.loop .ready none tm [52] (rng Try.f39 1).1 (rng Try.f39 1).2 39)) (hy : σ[y]? = some (.box [.yld id])) (hb : σ[bx]? = some (.box (b.enc.cells.map .p))) (ht2 : tm 2 = .ptr y 0) (ht8 : tm 7 = .ptr bx 0) :
    ∃ σ', invA TP HT n (.yld id') [.p x.enc] σ = some (boolA (step a (.jn b x)).2, σ') ∧ R (step a (.jn b x)).1 σ' ∧ σ.length ≤ σ'.length ∧
      σ'[id']? = some (.loop (if (step a (.jn b x)).2 then .ready else .done) (if (step a (.jn b x)).2 then none else some .ret) tm [52] (rng Try.f39 1).1 (rng Try.f39 1).2 39) ∧ (∀ j, k0 ≤ j → j < σ.length → j ≠ id' → σ'[j]? = σ[j]?) := by
  obtain ⟨m, rfl⟩ : ∃ m, n = m + 9 := ⟨n - 9, by omega⟩
  have hd := dr39
  simp only [regsF, Try.f39, regs, List.map, List.nil_append, List.append_nil, List.cons_append, List.cons.injEq, Prod.mk.injEq, and_true] at hd
  obtain ⟨⟨d1, d2⟩, d3, d4⟩ := hd
  obtain ⟨ox, lx, hxe⟩ := enc_form x
  obtain ⟨ob, lb, hbe⟩ := enc_form b
  have hJ := join_at (m + 7) b x
  have hidl : id' < σ.length := (List.getElem?_eq_some_iff.1 ho).1
  have hyl : y < σ.length := (List.getElem?_eq_some_iff.1 hy).1
  have hbl : bx < σ.length := (List.getElem?_eq_some_iff.1 hb).1
  have hk := Y.len a σ hR
  have hne1 : id' ≠ y := by rintro rfl; rw [ho] at hy; cases hy
  have hne2 : id' ≠ bx := by rintro rfl; rw [ho] at hb; cases hb
  let σ2 : Store := σ.set id' (.loop .busy none tm [52] (rng Try.f39 1).1 (rng Try.f39 1).2 39) ++ [.box [.p (.val (.int .i64 ox)), .p (.list lx)]]
  have hl2 : σ2.length = σ.length + 1 := by simp [σ2]
  have hR2 : R a σ2 := Y.frame a σ σ2 hR fun j hj => by
    simp only [σ2]
    rw [List.getElem?_append_left (by simp; omega), List.getElem?_set_ne (by omega)]
  obtain ⟨σ3, r1, r2, r3, r4⟩ := Y.run (m + 8) (by omega) kk a (.jn b x) σ2 hl hx hR2
  have g2 : σ2[id']? = some (.loop .busy none tm [52] (rng Try.f39 1).1 (rng Try.f39 1).2 39) := by
    simp only [σ2]; rw [List.getElem?_append_left (by simpa using hidl), List.getElem?_set_self hidl]
  have g3 : σ3[id']? = some (.loop .busy none tm [52] (rng Try.f39 1).1 (rng Try.f39 1).2 39) := by
    rw [r3 id' h1 (by omega)]; exact g2
  have gy : σ2[y]? = some (.box [.yld id]) := by
    simp only [σ2]; rw [List.getElem?_append_left (by simpa using hyl), List.getElem?_set_ne hne1]; exact hy
  have gb : σ2[bx]? = some (.box (b.enc.cells.map .p)) := by
    simp only [σ2]; rw [List.getElem?_append_left (by simpa using hbl), List.getElem?_set_ne hne2]; exact hb
  have gx : σ2[σ.length]? = some (.box [.p (.val (.int .i64 ox)), .p (.list lx)]) := by
    simp only [σ2]; rw [List.getElem?_append_right (by simp)]; simp
  let tm1 : Nat → AV := put (put tm (some 52) (.p x.enc)) (some 11) (.ptr σ.length 0)
  have A1 : codeA (mkE (m + 8) 39 true) 59 (rng Try.f39 1).1 ⟨putL tm [52] [.p x.enc], σ⟩ = some (.normal, ⟨tm1, σ ++ [.box [.p (.val (.int .i64 ox)), .p (.list lx)]]⟩) := by
    simp -implicitDefEqProofs [rng, rngsC, Try.f39, putL, hxe, tm1, List.set_append, List.getElem?_append]
  have hset : (σ ++ [AObj.box [.p (.val (.int .i64 ox)), .p (.list lx)]]).set id' (.loop .busy none tm [52] (rng Try.f39 1).1 (rng Try.f39 1).2 39) = σ2 := by
    rw [List.set_append_left _ _ hidl]
  have t2 : tm1 2 = .ptr y 0 := by simp [tm1, ht2]
  have t8 : tm1 7 = .ptr bx 0 := by simp [tm1, ht8]
  have t10 : tm1 11 = .ptr σ.length 0 := by simp [tm1]
  have B1 : ∃ tm3, codeA (mkE (m + 8) 39 true) 59 (rng Try.f39 1).2 ⟨tm1, σ2⟩ = some (if (step a (.jn b x)).2 then .normal else .ret, ⟨tm3, σ3⟩) := by
    simp only [hbe, PV.cells, List.map] at gb
    simp only [hxe, hbe, enc_jn] at hJ r1
    clear_value σ2 tm1
    cases hst : (step a (.jn b x)).2 <;> simp only [hst, boolA] at r1 <;>
      simp -implicitDefEqProofs [rng, rngsC, Try.f39, t2, t8, t10, gy, gb, gx, hJ, r1, d3, d4]
  obtain ⟨tm3, B1⟩ := B1
  have := round_run (E := mkE (m + 8) 39 true) (nt := 59) (args := [.p x.enc]) ho rfl rfl A1 (by rw [List.getElem?_append_left hidl]; exact ho) (by rw [hset]; exact B1) g3
  have hyr := yld_run (n := m + 8) (args := [.p x.enc]) ho fn39
  have hnt : Try.f39.ntmps = 59 := rfl
  rw [hnt, this] at hyr
  have hidl3 : id' < σ3.length := (List.getElem?_eq_some_iff.1 g3).1
  have keep : ∀ O, R (step a (.jn b x)).1 (σ3.set id' O) ∧ σ.length ≤ (σ3.set id' O).length ∧ (σ3.set id' O)[id']? = some O ∧ (∀ j, k0 ≤ j → j < σ.length → j ≠ id' → (σ3.set id' O)[j]? = σ[j]?) := fun O => by
    refine ⟨Y.frame _ σ3 _ r2 fun j hj => List.getElem?_set_ne (by omega), by simp; omega, List.getElem?_set_self hidl3, fun j h1 h2 h3 => ?_⟩
    rw [List.getElem?_set_ne (by omega), r3 j h1 (by omega)]
    simp only [σ2]
    rw [List.getElem?_append_left (by simpa using h2), List.getElem?_set_ne (by omega)]
  cases hst : (step a (.jn b x)).2 with
  | true =>
    simp only [hst, if_true, Bool.false_eq_true, if_false, roundOut] at hyr
    obtain ⟨k1, k2, k3, k4⟩ := keep (.loop .ready none tm [52] (rng Try.f39 1).1 (rng Try.f39 1).2 39)
    exact ⟨_, hyr, k1, k2, k3, k4⟩
  | false =>
    simp only [hst, if_true, Bool.false_eq_true, if_false, roundOut] at hyr
    obtain ⟨k1, k2, k3, k4⟩ := keep (.loop .done (some .ret) tm [52] (rng Try.f39 1).1 (rng Try.f39 1).2 39)
    exact ⟨_, hyr, k1, k2, k3, k4⟩

def seqsC : Code → List Code
  | .seq a b => seqsC a ++ seqsC b
  | c => [c]
def runS (E : Env) (nt : Nat) : List Code → ASt → Option (Ex × ASt)
  | [], s => some (.normal, s)
  | c :: r, s => seqR (codeA E nt c s) (runS E nt r)
theorem seqR_assoc (r : Option (Ex × ASt)) (f g : ASt → Option (Ex × ASt)) : seqR (seqR r f) g = seqR r (fun s => seqR (f s) g) := by
  cases r with
  | none => rfl
  | some x => obtain ⟨e, s⟩ := x; cases e <;> rfl
theorem seqR_id (r : Option (Ex × ASt)) : seqR r (fun s => some (.normal, s)) = r := by
  cases r with
  | none => rfl
  | some x => obtain ⟨e, s⟩ := x; cases e <;> rfl
theorem runS_app (E : Env) (nt : Nat) : ∀ (l r : List Code) (s : ASt), runS E nt (l ++ r) s = seqR (runS E nt l s) (runS E nt r)
  | [], r, s => rfl
  | c :: l, r, s => by
    simp only [List.cons_append, runS, seqR_assoc]
    congr 1
    funext s
    exact runS_app E nt l r s
theorem runS_seqs (E : Env) (nt : Nat) : ∀ (c : Code) (s : ASt), codeA E nt c s = runS E nt (seqsC c) s
  | .seq a b, s => by
    simp only [codeA_seq, seqsC, runS_app]
    rw [runS_seqs E nt a s]
    congr 1
    funext s
    exact runS_seqs E nt b s
  | .skip, s => by simp [seqsC, runS]
  | .region _ _ _, s => by simp only [seqsC, runS]; exact (seqR_id _).symm
  | .cond _ _ _, s => by simp only [seqsC, runS]; exact (seqR_id _).symm
  | .block _ _, s => by simp only [seqsC, runS]; exact (seqR_id _).symm
  | .loop _, s => by simp only [seqsC, runS]; exact (seqR_id _).symm
  | .rangeFunc _ _ _ _, s => by simp only [seqsC, runS]; exact (seqR_id _).symm
  | .exit _, s => by simp [seqsC, runS]
  | .scope _, s => by simp only [seqsC, runS]; exact (seqR_id _).symm
  | .label _, s => by simp [seqsC, runS]
  | .goto _, s => by simp only [seqsC, runS]; exact (seqR_id _).symm
  | .ret, s => by simp [seqsC, runS]
  | .refuse _, s => by simp only [seqsC, runS]; exact (seqR_id _).symm

/-- A function's pieces. -/
noncomputable def pcs (fn : Func) : List Code := match fn.body with
  | some c => seqsC c
  | none => []
noncomputable def pc (fn : Func) (k : Nat) : Code := (pcs fn).getD k .skip
def loopOf : Code → Code
  | .block _ c => loopOf c
  | .loop c => c
  | c => c
def blockOf : Code → Code
  | .block _ c => c
  | c => c

theorem bodyR_pcs (n : Nat) (f : FuncId) (fn : Func) (args : List AV) (σ : Store) (hb : fn.body.isSome = true) (hl : args.length ≤ fn.ntmps) (hn : fn.name ≠ "runtime.NumGoroutine") :
    bodyR n f fn args σ = retA TP fn.results.toList (runS (mkE n f false) fn.ntmps (pcs fn) ⟨argTm args, σ⟩) := by
  unfold bodyR pcs
  cases h : fn.body with
  | none => rw [h] at hb; cases hb
  | some c => simp only [hl, hn, ne_eq, not_false_eq_true, and_self, if_true, runS_seqs]

theorem pcs39 : pcs Try.f39 = [pc Try.f39 0, pc Try.f39 1, pc Try.f39 2, pc Try.f39 3, pc Try.f39 4, pc Try.f39 5, pc Try.f39 6, pc Try.f39 7, pc Try.f39 8, pc Try.f39 9] := by rfl

end Go.Ab
