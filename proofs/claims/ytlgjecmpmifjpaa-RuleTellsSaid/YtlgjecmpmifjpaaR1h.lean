/-
  All trees by any rules.
-/
import Derived.Test.YtlgjecmpmifjpaaR1g
import Derived.Test.YtlgjecmpmifjpaaR1y
set_option linter.unusedVariables false
set_option linter.unusedSimpArgs false
namespace Go.Ab
open Go.Proofs

theorem fin_uni {P : BT → Nat → Prop} : ∀ (l : List BT), (∀ x ∈ l, ∃ N, ∀ n, N ≤ n → P x n) → ∃ N, ∀ x ∈ l, ∀ n, N ≤ n → P x n
  | [], _ => ⟨0, by simp⟩
  | x :: l, h => by
    obtain ⟨N1, h1⟩ := h x (by simp)
    obtain ⟨N2, h2⟩ := fin_uni l (fun y hy => h y (by simp [hy]))
    refine ⟨N1 + N2, fun y hy n hn => ?_⟩
    rcases List.mem_cons.1 hy with rfl | hy
    · exact h1 n (by omega)
    · exact h2 y hy n (by omega)

theorem A4_facts {x : BT} (h : x ∈ A4) : ∃ m, m ∈ masks ∧ x ∈ SetL m ∧ Facts x m := by
  obtain ⟨m, hm, hx⟩ := mem_A4.1 h
  exact ⟨m, hm, hx, facts hm hx⟩

theorem Text_ev {x : BT} (h : x ∈ A4) : Ev 27 [x.enc] (.p (.val (.string (textS x)))) := by
  obtain ⟨k, hk, hx, F⟩ := A4_facts h
  obtain ⟨N1, h1⟩ := may_ev x.tr
  obtain ⟨N2, h2⟩ := text_ev x F.lt4 F.big
  obtain ⟨o, l, ht⟩ := enc_form x
  refine ⟨N1 + N2 + 1, fun n hn => ?_⟩
  obtain ⟨m, rfl⟩ : ∃ m, n = m + 1 := ⟨n - 1, by omega⟩
  have h1 := h1 m (by omega)
  have h2 := h2 m (by omega)
  have hb' : x.tr.enc = x.enc := rfl
  have hm : mayT x.tr = true := okAll_ok F.all
  rw [pr_run fn27]
  simp only [hb', ht, hm, bV] at h1 h2 ⊢
  simp -implicitDefEqProofs [bodyR, Try.f27, argTm, h1, h2]

theorem Text_uni : ∃ N, ∀ x ∈ A4, ∀ n, N ≤ n → prA TP HT n 27 [x.enc] = some (.p (.val (.string (textS x)))) :=
  fin_uni A4 fun x hx => Text_ev hx

/-! ### Maps, for simp -/
def lookR (P : Program) (a b : Option AV) (c : Option TypeId) : Eff := match a, b, c with
  | some (.map id), some (.p k), some e => .read id fun
      | .map kvs => if keyB k then match lookM k kvs, zeroT P e with
        | some v, _ => some (.p v)
        | none, some (.p z) => some (.p z)
        | _, _ => none
        else none
      | _ => none
  | _, _, _ => .pure none
def lookZ (P : Program) (e : TypeId) : Option PV → Option AV
  | some v => some (.p v)
  | none => match zeroT P e with
    | some (.p z) => some (.p z)
    | _ => none
@[simp] theorem lookR_some (P : Program) (e : TypeId) (id : Nat) (k : PV) : lookR P (some (.map id)) (some (.p k)) (some e) = .read id fun
      | .map kvs => if keyB k then lookZ P e (lookM k kvs) else none
      | _ => none := by
  simp only [lookR]
  congr 1
  funext o
  cases o <;> try rfl
  rename_i kvs
  simp only [lookZ]
  split
  · cases lookM k kvs with
    | some v => rfl
    | none =>
      cases zeroT P e with
      | none => rfl
      | some z => cases z <;> rfl
  · rfl
@[simp] theorem op_lookup (E : Env) (dst : Option Nat) (tm : Nat → AV) (T : TypeId) (m k : Operand) : opEff E dst (evA tm) (.lookup T m k false) = lookR E.P (evA tm m) (evA tm k) (mapT E.P T) := rfl
def updR (b c d : Option AV) (a : Option TypeId) : Eff := match b, c, d, a with
  | some (.map id), some (.p k), some (.p v), some _ => .write id fun
      | .map kvs => if keyB k then some (.tup [], .map (setM k v kvs)) else none
      | _ => none
  | _, _, _, _ => .pure none
@[simp] theorem updR_some (e : TypeId) (id : Nat) (k v : PV) : updR (some (.map id)) (some (.p k)) (some (.p v)) (some e) = .write id fun
      | .map kvs => if keyB k then some (.tup [], .map (setM k v kvs)) else none
      | _ => none := rfl
@[simp] theorem op_update (E : Env) (dst : Option Nat) (tm : Nat → AV) (T : TypeId) (m k x : Operand) : opEff E dst (evA tm) (.mapUpdate T m k x) = updR (evA tm m) (evA tm k) (evA tm x) (mapT E.P T) := rfl
@[simp] theorem op_insert (E : Env) (dst : Option Nat) (tm : Nat → AV) (T : TypeId) (m k x : Operand) : opEff E dst (evA tm) (.insert T m k x) = updR (evA tm m) (evA tm k) (evA tm x) (mapT E.P T) := rfl
attribute [simp] keyB

def kv (out : List BT) : List (PV × PV) := out.map fun b => (.val (.string (textS b)), .val (.bool true))

theorem look_in {x : BT} (hx : x ∈ A4) : ∀ {out : List BT}, (∀ b ∈ out, b ∈ A4) → x ∈ out → lookM (.val (.string (textS x))) (kv out) = some (.val (.bool true))
  | [], _, h => by simp at h
  | b :: out, hA, h => by
    simp only [kv, List.map_cons, lookM, keyEq]
    by_cases hb : textS x = textS b
    · simp [hb, ba_beq]
    · have h2 : (textS x == textS b) = false := by simp [ba_beq, hb]
      simp only [h2, Bool.false_eq_true, if_false]
      have hne : x ≠ b := fun e => hb (by rw [e])
      exact look_in hx (fun y hy => hA y (by simp [hy])) (by
        rcases List.mem_cons.1 h with rfl | h
        · exact absurd rfl hne
        · exact h)
theorem look_out {x : BT} (hx : x ∈ A4) : ∀ {out : List BT}, (∀ b ∈ out, b ∈ A4) → x ∉ out → lookM (.val (.string (textS x))) (kv out) = none ∧ setM (.val (.string (textS x))) (.val (.bool true)) (kv out) = kv (out ++ [x])
  | [], _, h => by simp [kv, lookM, setM]
  | b :: out, hA, h => by
    have hne : x ≠ b := by rintro rfl; simp at h
    have hb : textS x ≠ textS b := fun e => hne (text_inj hx (hA b (by simp)) e)
    have h2 : (textS x == textS b) = false := by simp [ba_beq, hb]
    obtain ⟨g1, g2⟩ := look_out hx (out := out) (fun y hy => hA y (by simp [hy])) (fun hm => h (by simp [hm]))
    refine ⟨?_, ?_⟩
    · simp only [kv, List.map_cons, lookM, keyEq, h2, Bool.false_eq_true, if_false]
      exact g1
    · simp only [kv, List.map_cons, List.cons_append, setM, keyEq, h2, Bool.false_eq_true, if_false]
      congr 1

/-- The loop of Close, in the store. -/
def RC (t0 t' : BT) (tm : Nat → AV) (out : List BT) (σ : Store) : Prop :=
  σ[0]? = some (.box (t0.enc.cells.map .p)) ∧ σ[1]? = some (.arr 24 (out.map BT.enc) 0) ∧ σ[2]? = some (.box [.own 1 out.length]) ∧ σ[3]? = some (.map (kv out)) ∧ σ[4]? = some (.box [.map 3]) ∧ σ[5]? = some (.box (t'.enc.cells.map .p)) ∧
    σ[6]? = some (.loop .ready none tm [28] (rng Try.f20 0).1 (rng Try.f20 0).2 20) ∧ ∀ b ∈ out, b ∈ A4

set_option maxHeartbeats 4000000 in
theorem YC : ∃ N, ∀ (t0 t' : BT) (tm : Nat → AV), tm 3 = .ptr 2 0 → tm 4 = .ptr 4 0 → YOK N 6 7 (fun k (out : List BT) => out.length + k ≤ 1000000) (RC t0 t' tm) (fun out x => (addS out x, true)) (fun x => x ∈ A4) := by
  obtain ⟨N, hT⟩ := Text_uni
  refine ⟨N + 9, fun t0 t' tm ht3 ht4 => ⟨fun a σ h => ?_, fun a σ σ' h hs => ?_, fun n hn k a x σ hl hx h => ?_, fun k a x h _ => ?_, fun k a h => by omega⟩⟩
  · have := (List.getElem?_eq_some_iff.1 h.2.2.2.2.2.2.1).1
    omega
  · obtain ⟨r0, r1, r2, r3, r4, r5, r6, r7⟩ := h
    exact ⟨by rw [hs 0 (by omega)]; exact r0, by rw [hs 1 (by omega)]; exact r1, by rw [hs 2 (by omega)]; exact r2, by rw [hs 3 (by omega)]; exact r3, by rw [hs 4 (by omega)]; exact r4, by rw [hs 5 (by omega)]; exact r5, by rw [hs 6 (by omega)]; exact r6, r7⟩
  · obtain ⟨m, rfl⟩ : ∃ m, n = m + 9 := ⟨n - 9, by omega⟩
    obtain ⟨r0, r1, r2, r3, r4, r5, r6, r7⟩ := h
    have hT := hT x hx (m + 8) (by omega)
    obtain ⟨ox, lx, hxe⟩ := enc_form x
    have hd := dr20
    simp only [regsF, Try.f20, regs, List.map, List.nil_append, List.append_nil, List.cons_append, List.cons.injEq, Prod.mk.injEq, and_true] at hd
    have hlen : 6 < σ.length := (List.getElem?_eq_some_iff.1 r6).1
    let LB : AObj := .loop .busy none tm [28] (rng Try.f20 0).1 (rng Try.f20 0).2 20
    let σ2 : Store := σ.set 6 LB ++ [.box [.p (.val (.int .i64 ox)), .p (.list lx)]]
    have low : ∀ j, j < 6 → σ2[j]? = σ[j]? := fun j hj => by
      simp only [σ2]; rw [List.getElem?_append_left (by simp; omega), List.getElem?_set_ne (by omega)]
    have g1 : σ2[1]? = some (.arr 24 (a.map BT.enc) 0) := by rw [low 1 (by omega)]; exact r1
    have g2 : σ2[2]? = some (.box [.own 1 a.length]) := by rw [low 2 (by omega)]; exact r2
    have g3 : σ2[3]? = some (.map (kv a)) := by rw [low 3 (by omega)]; exact r3
    have g4 : σ2[4]? = some (.box [.map 3]) := by rw [low 4 (by omega)]; exact r4
    have g6 : σ2[6]? = some LB := by
      simp only [σ2]; rw [List.getElem?_append_left (by simpa using hlen), List.getElem?_set_self hlen]
    have gx : σ2[σ.length]? = some (.box [.p (.val (.int .i64 ox)), .p (.list lx)]) := by
      simp only [σ2]; rw [List.getElem?_append_right (by simp)]; simp
    have hl2 : σ2.length = σ.length + 1 := by simp [σ2]
    let tm1 : Nat → AV := put (put tm (some 28) (.p x.enc)) (some 6) (.ptr σ.length 0)
    have A1 : codeA (mkE (m + 8) 20 true) 44 (rng Try.f20 0).1 ⟨putL tm [28] [.p x.enc], σ⟩ = some (.normal, ⟨tm1, σ ++ [.box [.p (.val (.int .i64 ox)), .p (.list lx)]]⟩) := by
      simp -implicitDefEqProofs [rng, rngsC, Try.f20, putL, hxe, tm1, List.set_append, List.getElem?_append]
    have hset : (σ ++ [AObj.box [.p (.val (.int .i64 ox)), .p (.list lx)]]).set 6 LB = σ2 := by
      rw [List.set_append_left _ _ hlen]
    have t3 : tm1 3 = .ptr 2 0 := by simp [tm1, ht3]
    have t4 : tm1 4 = .ptr 4 0 := by simp [tm1, ht4]
    have t6 : tm1 6 = .ptr σ.length 0 := by simp [tm1]
    let σ3 : Store := if x ∈ a then σ2 else ((σ2.set 3 (.map (kv (a ++ [x])))).set 1 (.arr 24 (a.map BT.enc ++ [x.enc]) 0)).set 2 (.box [.own 1 (a.length + 1)])
    have B1 : ∃ tm3, codeA (mkE (m + 8) 20 true) 44 (rng Try.f20 0).2 ⟨tm1, σ2⟩ = some (.normal, ⟨tm3, σ3⟩) := by
      obtain ⟨q1a, q1b⟩ := List.getElem?_eq_some_iff.1 g1
      obtain ⟨q2a, q2b⟩ := List.getElem?_eq_some_iff.1 g2
      obtain ⟨q3a, q3b⟩ := List.getElem?_eq_some_iff.1 g3
      obtain ⟨q4a, q4b⟩ := List.getElem?_eq_some_iff.1 g4
      obtain ⟨qxa, qxb⟩ := List.getElem?_eq_some_iff.1 gx
      have hroom : (a.length + 1) * 33 ≤ 1099511627776 := by omega
      have hlt : (a.length : Int) < (a.length : Int) + 1 := by omega
      have hne3 : ¬ 3 = σ.length := by omega
      have hne1 : ¬ 1 = σ.length := by omega
      simp only [hxe] at hT
      by_cases hxa : x ∈ a
      · have hlk := look_in hx r7 hxa
        simp only [σ3, hxa, if_true]
        clear_value σ2 tm1
        simp -implicitDefEqProofs [rng, rngsC, Try.f20, t3, t4, t6, g1, g2, g3, g4, gx, q1a, q1b, q2a, q2b, q3a, q3b, q4a, q4b, qxa, qxb, hd.1, hd.2, hT, hlk, lookZ]
      · obtain ⟨hlk, hst⟩ := look_out hx r7 hxa
        simp only [σ3, hxa, if_false, hxe]
        clear_value σ2 tm1
        simp -implicitDefEqProofs [rng, rngsC, Try.f20, t3, t4, t6, g1, g2, g3, g4, gx, q1a, q1b, q2a, q2b, q3a, q3b, q4a, q4b, qxa, qxb, hd.1, hd.2, hT, hlk, hst, lookZ, hroom, hlt, hne3, hne1, List.getElem_set]
    obtain ⟨tm3, B1⟩ := B1
    have gl3 : σ3.length = σ.length + 1 := by simp only [σ3]; split <;> simp [hl2]
    have hi3 : ∀ j, 4 ≤ j → σ3[j]? = σ2[j]? := fun j hj => by
      simp only [σ3]; split
      · rfl
      · rw [List.getElem?_set_ne (by omega), List.getElem?_set_ne (by omega), List.getElem?_set_ne (by omega)]
    have g63 : σ3[6]? = some LB := by rw [hi3 6 (by omega)]; exact g6
    have hrr := round_run (E := mkE (m + 8) 20 true) (nt := 44) (args := [.p x.enc]) r6 rfl rfl A1 (by rw [List.getElem?_append_left hlen]; exact r6) (by rw [hset]; exact B1) g63
    have hyr := yld_run (n := m + 8) (args := [.p x.enc]) r6 fn20
    have hnt : Try.f20.ntmps = 44 := rfl
    rw [hnt, hrr] at hyr
    refine ⟨_, hyr, ⟨?_, ?_, ?_, ?_, ?_, ?_, ?_, ?_⟩, fun j hj1 hj2 => ?_, by simp; omega⟩
    · rw [List.getElem?_set_ne (by omega)]
      simp only [σ3]; split
      · rw [low 0 (by omega)]; exact r0
      · rw [List.getElem?_set_ne (by omega), List.getElem?_set_ne (by omega), List.getElem?_set_ne (by omega), low 0 (by omega)]; exact r0
    · rw [List.getElem?_set_ne (by omega)]
      simp only [σ3, addS]; split
      · exact g1
      · rw [List.getElem?_set_ne (by omega), List.getElem?_set_self (by simp; omega)]; simp
    · rw [List.getElem?_set_ne (by omega)]
      simp only [σ3, addS]; split
      · exact g2
      · rw [List.getElem?_set_self (by simp; omega)]; simp
    · rw [List.getElem?_set_ne (by omega)]
      simp only [σ3, addS]; split
      · exact g3
      · rw [List.getElem?_set_ne (by omega), List.getElem?_set_ne (by omega), List.getElem?_set_self (by omega)]
    · rw [List.getElem?_set_ne (by omega), hi3 4 (by omega), low 4 (by omega)]; exact r4
    · rw [List.getElem?_set_ne (by omega), hi3 5 (by omega), low 5 (by omega)]; exact r5
    · rw [List.getElem?_set_self (by show 6 < σ3.length; omega)]
    · intro b hb
      unfold addS at hb
      split at hb
      · exact r7 b hb
      · rcases List.mem_append.1 hb with hb | hb
        · exact r7 b hb
        · simp at hb; subst hb; exact hx
    · rw [List.getElem?_set_ne (by omega), hi3 j (by omega)]
      simp only [σ2]
      rw [List.getElem?_append_left (by simpa using hj2), List.getElem?_set_ne (by omega)]
  · have : (addS a x).length ≤ a.length + 1 := by unfold addS; split <;> simp
    simp only
    omega

end Go.Ab
