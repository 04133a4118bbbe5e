/-
  All trees by one rule.
-/
import Derived.Test.YtlgjecmpmifjpaaR1f
set_option linter.unusedVariables false
set_option linter.unusedSimpArgs false
namespace Go.Ab
open Go.Proofs

theorem next_no (t : Tr) (h : mayT t = false) : Ev 11 [t.enc] (.p (.list [])) := by
  obtain ⟨N, h1⟩ := may_ev t
  obtain ⟨o, l, ht⟩ := tr_form t
  refine ⟨N + 1, fun n hn => ?_⟩
  obtain ⟨m, rfl⟩ : ∃ m, n = m + 1 := ⟨n - 1, by omega⟩
  have h1 := h1 m (by omega)
  rw [pr_run fn11]
  simp only [ht, h, bV] at h1 ⊢
  simp -implicitDefEqProofs [bodyR, Try.f11, argTm, h1]

def storeW (P : Program) (T : TypeId) (id n i off : Nat) : Option PV → Eff
  | some x => .write id fun
        | .arr T' es fz => bindR es[i]? fun e => if n = es.length ∧ fz ≤ i ∧ 0 < szT P T ∧ x.cells.length = szT P T ∧ off + szT P T ≤ e.cells.length then some (.tup [], .arr T' (es.set i (setCells e (over e.cells off x.cells))) fz) else none
        | _ => none
  | none => .pure none
@[simp] theorem storeW_some (P : Program) (T : TypeId) (id n i off : Nat) (x : PV) : storeW P T id n i off (some x) = .write id fun
        | .arr T' es fz => bindR es[i]? fun e => if n = es.length ∧ fz ≤ i ∧ 0 < szT P T ∧ x.cells.length = szT P T ∧ off + szT P T ≤ e.cells.length then some (.tup [], .arr T' (es.set i (setCells e (over e.cells off x.cells))) fz) else none
        | _ => none := rfl
@[simp] theorem storeR_optr (P : Program) (T : TypeId) (id n i off : Nat) (v : AV) : storeR P T (some (.optr id n i off)) (some v) = storeW P T id n i off (wordOf v) := by
  simp only [storeR, storeW]
  cases wordOf v with
  | none => rfl
  | some x =>
    simp only
    congr 1
    funext o
    cases o <;> try rfl
    rename_i T' es fz
    simp only
    cases es[i]? <;> rfl
@[simp] theorem setCells_agg (cs ds : List PV) : setCells (.agg cs) ds = .agg ds := rfl

def arrT (l : List PV) : TypeId := if l = [] then 0 else 24
def zV : PV := .agg [.val (.int .i64 0), .list []]

/-- The loop of Next, in the store. -/
def RN (t : BT) (tm : Nat → AV) (out : List BT) (σ : Store) : Prop :=
  σ[1]? = some (.arr (arrT (out.map BT.enc)) (out.map BT.enc) 0) ∧ σ[2]? = some (.box [.own 1 out.length]) ∧ σ[3]? = some (.box (t.enc.cells.map .p)) ∧ σ[4]? = some (.loop .ready none tm [10] (rng Try.f11 0).1 (rng Try.f11 0).2 11)

set_option maxHeartbeats 4000000 in
theorem YN (t : BT) (tm : Nat → AV) (ht3 : tm 3 = .ptr 2 0) : YOK 9 4 5 (fun k (out : List BT) => out.length + k ≤ 1000000) (RN t tm) (fun out x => (out ++ [x], true)) (fun _ => True) := by
  refine ⟨fun a σ h => ?_, fun a σ σ' h hs => ?_, fun n hn k a x σ hl _ h => ?_, fun k a x h _ => by simp; omega, fun k a h => by omega⟩
  · have := (List.getElem?_eq_some_iff.1 h.2.2.2).1
    omega
  · exact ⟨by rw [hs 1 (by omega)]; exact h.1, by rw [hs 2 (by omega)]; exact h.2.1, by rw [hs 3 (by omega)]; exact h.2.2.1, by rw [hs 4 (by omega)]; exact h.2.2.2⟩
  · obtain ⟨m, rfl⟩ : ∃ m, n = m + 9 := ⟨n - 9, by omega⟩
    obtain ⟨r1, r2, r3, r4⟩ := h
    obtain ⟨ox, lx, hxe⟩ := enc_form x
    have hd := dr11
    simp only [regsF, Try.f11, regs, List.map, List.nil_append, List.append_nil, List.cons_append, List.cons.injEq, Prod.mk.injEq, and_true] at hd
    have hlen : 4 < σ.length := (List.getElem?_eq_some_iff.1 r4).1
    let LB : AObj := .loop .busy none tm [10] (rng Try.f11 0).1 (rng Try.f11 0).2 11
    let σ2 : Store := σ.set 4 LB ++ [.box [.p (.val (.int .i64 ox)), .p (.list lx)]]
    have g1 : σ2[1]? = some (.arr (arrT (a.map BT.enc)) (a.map BT.enc) 0) := by
      simp only [σ2]; rw [List.getElem?_append_left (by simp; omega), List.getElem?_set_ne (by omega)]; exact r1
    have g2 : σ2[2]? = some (.box [.own 1 a.length]) := by
      simp only [σ2]; rw [List.getElem?_append_left (by simp; omega), List.getElem?_set_ne (by omega)]; exact r2
    have g3 : σ2[3]? = some (.box (t.enc.cells.map .p)) := by
      simp only [σ2]; rw [List.getElem?_append_left (by simp; omega), List.getElem?_set_ne (by omega)]; exact r3
    have g4 : σ2[4]? = some LB := by
      simp only [σ2]; rw [List.getElem?_append_left (by simpa using hlen), List.getElem?_set_self hlen]
    have gx : σ2[σ.length]? = some (.box [.p (.val (.int .i64 ox)), .p (.list lx)]) := by
      simp only [σ2]; rw [List.getElem?_append_right (by simp)]; simp
    have hl2 : σ2.length = σ.length + 1 := by simp [σ2]
    let tm1 : Nat → AV := put (put tm (some 10) (.p x.enc)) (some 4) (.ptr σ.length 0)
    have A1 : codeA (mkE (m + 8) 11 true) 18 (rng Try.f11 0).1 ⟨putL tm [10] [.p x.enc], σ⟩ = some (.normal, ⟨tm1, σ ++ [.box [.p (.val (.int .i64 ox)), .p (.list lx)]]⟩) := by
      simp -implicitDefEqProofs [rng, rngsC, Try.f11, putL, hxe, tm1, List.set_append, List.getElem?_append]
    have hset : (σ ++ [AObj.box [.p (.val (.int .i64 ox)), .p (.list lx)]]).set 4 LB = σ2 := by
      rw [List.set_append_left _ _ hlen]
    have t3 : tm1 3 = .ptr 2 0 := by simp [tm1, ht3]
    have t4 : tm1 4 = .ptr σ.length 0 := by simp [tm1]
    let σ3 : Store := (σ2.set 1 (.arr 24 (a.map BT.enc ++ [x.enc]) 0)).set 2 (.box [.own 1 (a.length + 1)])
    have B1 : ∃ tm3, codeA (mkE (m + 8) 11 true) 18 (rng Try.f11 0).2 ⟨tm1, σ2⟩ = some (.normal, ⟨tm3, σ3⟩) := by
      have q1 := (List.getElem?_eq_some_iff.1 g1)
      have q2 := (List.getElem?_eq_some_iff.1 g2)
      have qx := (List.getElem?_eq_some_iff.1 gx)
      obtain ⟨q1a, q1b⟩ := q1
      obtain ⟨q2a, q2b⟩ := q2
      obtain ⟨qxa, qxb⟩ := qx
      have hroom : (a.length + 1) * 33 ≤ 1099511627776 := by omega
      have hlt : (a.length : Int) < (a.length : Int) + 1 := by omega
      have hTT : a = [] ∨ arrT (a.map BT.enc) = 24 := by
        cases a with
        | nil => exact .inl rfl
        | cons y ys => right; simp [arrT]
      simp only [σ3, hxe]
      clear_value σ2 tm1
      simp -implicitDefEqProofs [rng, rngsC, Try.f11, t3, t4, g1, g2, gx, q1a, q1b, q2a, q2b, qxa, qxb, hd.1, hd.2, hroom, hTT, hlt]
    obtain ⟨tm3, B1⟩ := B1
    have gl3 : σ3.length = σ.length + 1 := by simp [σ3, hl2]
    have g43 : σ3[4]? = some LB := by
      simp only [σ3]; rw [List.getElem?_set_ne (by omega), List.getElem?_set_ne (by omega)]; exact g4
    have hrr := round_run (E := mkE (m + 8) 11 true) (nt := 18) (args := [.p x.enc]) r4 rfl rfl A1 (by rw [List.getElem?_append_left hlen]; exact r4) (by rw [hset]; exact B1) g43
    have hyr := yld_run (n := m + 8) (args := [.p x.enc]) r4 fn11
    have hnt : Try.f11.ntmps = 18 := rfl
    rw [hnt, hrr] at hyr
    refine ⟨_, hyr, ⟨?_, ?_, ?_, ?_⟩, fun j hj1 hj2 => ?_, by simp; omega⟩
    · rw [List.getElem?_set_ne (by omega)]
      simp only [σ3]
      rw [List.getElem?_set_ne (by omega), List.getElem?_set_self (by omega)]
      simp [arrT]
    · rw [List.getElem?_set_ne (by omega)]
      simp only [σ3]
      rw [List.getElem?_set_self (by simp; omega)]
      simp
    · rw [List.getElem?_set_ne (by omega)]
      simp only [σ3]
      rw [List.getElem?_set_ne (by omega), List.getElem?_set_ne (by omega)]
      exact g3
    · rw [List.getElem?_set_self (by show 4 < σ3.length; omega)]
    · rw [List.getElem?_set_ne (by omega)]
      simp only [σ3]
      rw [List.getElem?_set_ne (by omega), List.getElem?_set_ne (by omega)]
      simp only [σ2]
      rw [List.getElem?_append_left (by simpa using hj2), List.getElem?_set_ne (by omega)]

theorem runY_all (l : List BT) : ∀ a : List BT, runY (fun (out : List BT) x => (out ++ [x], true)) a l = (a ++ l, true) := by
  induction l with
  | nil => intro a; simp [runY]
  | cons x l ih => intro a; simp only [runY, if_true]; rw [ih]; simp

theorem pcs11 : pcs Try.f11 = [pc Try.f11 0, pc Try.f11 1, pc Try.f11 2, pc Try.f11 3, pc Try.f11 4, pc Try.f11 5, pc Try.f11 6, pc Try.f11 7] := by rfl

set_option maxHeartbeats 4000000 in
theorem next_yes (t : BT) (hok : okAll t = true) (hb : bud t ≤ 1000) : Ev 11 [t.enc] (.p (.list ((eachS t).map BT.enc))) := by
  obtain ⟨N1, h1⟩ := may_ev t.tr
  obtain ⟨N2, h2⟩ := each_ok t hok
  refine ⟨N1 + N2 + 20, fun n hn => ?_⟩
  obtain ⟨m, rfl⟩ : ∃ m, n = m + 3 := ⟨n - 3, by omega⟩
  have h1 := h1 (m + 2) (by omega)
  obtain ⟨o, l, ht⟩ := enc_form t
  have hE := each29 (m + 1) t [.box (t.enc.cells.map .p), .arr 0 [] 0, .box [.own 1 0]]
  have hb' : t.tr.enc = t.enc := rfl
  have hm : mayT t.tr = true := okAll_ok hok
  rw [hb', hm] at h1
  have hnt : Try.f11.ntmps = 18 := rfl
  have hbp := bodyR_pcs (m + 2) 11 Try.f11 [.p t.enc] [] rfl (by rw [hnt]; show 1 ≤ 18; omega) (by decide)
  have hp : ∃ tm1, runS (mkE (m + 2) 11 false) 18 [pc Try.f11 0, pc Try.f11 1, pc Try.f11 2, pc Try.f11 3, pc Try.f11 4] ⟨argTm [.p t.enc], []⟩ = some (.normal, ⟨tm1, [.box (t.enc.cells.map .p), .arr 0 [] 0, .box [.own 1 0], .box (t.enc.cells.map .p)]⟩) ∧ tm1 9 = .fn 39 [] [.ptr 3 0] ∧ tm1 3 = .ptr 2 0 := by
    simp only [ht, bV, PV.cells, List.map] at h1 hE ⊢
    simp -implicitDefEqProofs [runS, pc, pcs, seqsC, Try.f11, argTm, h1, hE]
  obtain ⟨tm1, hp, u9, u3⟩ := hp
  have split5 : ∀ (r : List Code) (s : ASt), runS (mkE (m + 2) 11 false) 18 (pc Try.f11 0 :: pc Try.f11 1 :: pc Try.f11 2 :: pc Try.f11 3 :: pc Try.f11 4 :: r) s = seqR (runS (mkE (m + 2) 11 false) 18 [pc Try.f11 0, pc Try.f11 1, pc Try.f11 2, pc Try.f11 3, pc Try.f11 4] s) (runS (mkE (m + 2) 11 false) 18 r) := fun r s => runS_app _ _ [_, _, _, _, _] r s
  let σ1 : Store := [.box (t.enc.cells.map .p), .arr 0 [] 0, .box [.own 1 0], .box (t.enc.cells.map .p)]
  obtain ⟨σ2, e1, e2, e3⟩ := h2 (YN t tm1 u3) (m + 2) (by omega) [] (σ1 ++ [.loop .ready none tm1 [10] (rng Try.f11 0).1 (rng Try.f11 0).2 11]) 3 (by simp; omega) ⟨rfl, rfl, rfl, rfl⟩ (fun _ _ h => h.2.2.1) (fun _ _ => trivial)
  rw [runY_all] at e2
  obtain ⟨q1, q2, q3, q4⟩ := e2
  have hro := range_out (E := mkE (m + 2) 11 false) (fv := .fn 39 [] [.ptr 3 0]) (ps := #[10]) (ac := (rng Try.f11 0).1) (bd := (rng Try.f11 0).2) (tm := tm1) (σ := σ1) (s := false) rfl rfl e1 q4
  have hpc : pc Try.f11 5 = .block 0 (.rangeFunc (.tmp 9) #[10] (rng Try.f11 0).1 (rng Try.f11 0).2) := by rfl
  rw [pr_run fn11]
  simp only [List.map] at hbp ⊢
  rw [hbp, pcs11, hnt, split5, hp, seqR_normal, runS, hpc, codeA_block, codeA_range]
  simp only [evA_tmp, u9]
  simp only [σ1] at hro
  rw [hro]
  have hlen : 4 < σ2.length := (List.getElem?_eq_some_iff.1 q4).1
  have q2a := (List.getElem?_eq_some_iff.1 q2).2
  have q1a := (List.getElem?_eq_some_iff.1 q1).2
  have l1 : 1 < σ2.length := by omega
  have l2 : 2 < σ2.length := by omega
  simp only [List.nil_append] at q1a q2a
  simp -implicitDefEqProofs [runS, pc, pcs, seqsC, Try.f11, u3, q1a, q2a, l1, l2, hlen]

end Go.Ab
