/-
  A region that draws its order.
-/
import Derived.Test.YtlgjecmpmifjpaaAbQ
set_option linter.unusedVariables false
set_option linter.unusedSimpArgs false
namespace Go.Ab
open Go.RowKit

variable {P : Program} {E : Env} {nt : Nat} {ops : Array Oper}

theorem partsA_congr {ev ev' : Operand → Option AV} : ∀ {l : List (Nat × Operand)}, (∀ x ∈ l.map (·.2), ev x = ev' x) → partsA ev l = partsA ev' l
  | [], _ => rfl
  | (i, x) :: l, h => by
    simp only [partsA]
    rw [h x (by simp), partsA_congr (l := l) (fun y hy => h y (by simp at hy ⊢; exact .inr hy))]
theorem argsA_congr {ev ev' : Operand → Option AV} : ∀ {l : List Operand}, (∀ x ∈ l, ev x = ev' x) → argsA ev l = argsA ev' l
  | [], _ => rfl
  | x :: l, h => by
    simp only [argsA]
    rw [h x (by simp), argsA_congr (l := l) (fun y hy => h y (by simp [hy]))]

theorem opEff_congr {dst : Option Nat} {ev ev' : Operand → Option AV} {op : Op} (h : ∀ x ∈ op.operands, ev x = ev' x) : opEff E dst ev op = opEff E dst ev' op := by
  cases op <;> simp only [Op.operands] at h <;> first
    | rfl
    | (simp only [opEff]; rw [h _ (by simp)]; done)
    | (simp only [opEff]; rw [h _ (by simp), h _ (by simp)]; done)
    | skip
  case makeMap T r => cases r <;> rfl
  case pick c a b => simp only [opEff]; rw [h c (by simp), h a (by simp), h b (by simp)]
  case build T ps => simp only [opEff]; rw [partsA_congr (ev := ev) (ev' := ev') (fun x hx => h x (by simpa using hx))]
  case buildSlice T n ps => simp only [opEff]; rw [partsA_congr (ev := ev) (ev' := ev') (fun x hx => h x (by simpa using hx))]
  case lookup T x y ok => cases ok <;> simp only [opEff]; rw [h x (by simp), h y (by simp)]
  case makeFunc f first cap =>
    cases f <;> simp only [opEff]
    rw [argsA_congr (ev := ev) (ev' := ev') (l := first.toList) (fun x hx => h x (by simp at hx ⊢; exact .inl hx)), argsA_congr (ev := ev) (ev' := ev') (l := cap.toList) (fun x hx => h x (by simp at hx ⊢; exact .inr hx))]
  case mapUpdate T m k v => simp only [opEff]; rw [h m (by simp), h k (by simp), h v (by simp)]
  case insert T m k v => simp only [opEff]; rw [h m (by simp), h k (by simp), h v (by simp)]
  case call c =>
    simp only [opEff]
    have ha : argsA ev c.args.toList = argsA ev' c.args.toList := argsA_congr (fun x hx => h x (by simp only [Call.operands]; simp at hx ⊢; exact .inr hx))
    split
    · rename_i f hf
      rw [ha, h f (by simp [Call.operands, hf])]
    · rw [ha]
    · rfl

theorem evA_put {tm : Nat → AV} {d : Option Nat} {v : AV} {x : Operand} (h : ∀ t, d = some t → x ≠ .tmp t) : evA (put tm d v) x = evA tm x := by
  cases x with
  | tmp t =>
    cases d with
    | none => rfl
    | some d =>
      simp only [evA, put]
      rw [if_neg (fun e => h d rfl (by rw [e]))]
  | _ => rfl

theorem effW_put {o : Oper} {tm : Nat → AV} {d : Option Nat} {v : AV} (h : ∀ t, d = some t → t ∉ o.looksAt ops) : effW E ops o (put tm d v) = effW E ops o tm := by
  have h1 : wantA ops (put tm d v) o = wantA ops tm o := by
    unfold wantA
    cases hg : o.guard with
    | none => rfl
    | some gb =>
      obtain ⟨g, b⟩ := gb
      simp only
      cases hd : (ops[g]?).bind (·.dst) with
      | none => rfl
      | some t =>
        simp only
        have : put tm d v t = tm t := by
          cases d with
          | none => rfl
          | some d =>
            simp only [put]
            rw [if_neg]
            intro e
            refine h d rfl ?_
            unfold Oper.looksAt
            rw [List.mem_append]
            right
            rw [hg]
            simp [hd, e]
        rw [this]
  unfold effW
  rw [h1]
  split
  · rw [opEff_congr]
    intro x hx
    refine evA_put fun t ht e => h t ht ?_
    subst e
    unfold Oper.looksAt
    exact List.mem_append_left _ (List.mem_filterMap.2 ⟨.tmp t, by simpa using hx, rfl⟩)
  · rfl
  · rfl

theorem stepE_iff {i : Nat} {s s1 : ASt} {e : Eff} : stepE E nt ops i s = some (e, s1) ↔ ∃ o v σ, ops[i]? = some o ∧ effW E ops o s.tm = some e ∧ dstB nt o.dst = true ∧ e.run s.st = some (v, σ) ∧ s1 = ⟨put s.tm o.dst v, σ⟩ := by
  unfold stepE
  constructor
  · intro h
    split at h
    · rename_i o ho
      split at h
      · rename_i e' he
        split at h
        · rename_i hd
          split at h
          · rename_i v σ hr
            simp only [Option.some.injEq, Prod.mk.injEq] at h
            obtain ⟨rfl, rfl⟩ := h
            exact ⟨o, v, σ, ho, he, hd, hr, rfl⟩
          · cases h
        · cases h
      · cases h
    · cases h
  · rintro ⟨o, v, σ, ho, he, hd, hr, rfl⟩
    simp only [ho, he, hd, if_true, hr]

/-- Two that touch no memory in common come to the same either way round. -/
theorem comm_run {e f : Eff} {σ σ1 σ2 : Store} {v u : AV} (hc : e.comm f = true) (he : e.run σ = some (v, σ1)) (hf : f.run σ1 = some (u, σ2)) : ∃ σ', f.run σ = some (u, σ') ∧ e.run σ' = some (v, σ2) := by
  cases e with
  | pure r =>
    cases r with
    | none => simp [Eff.run] at he
    | some r =>
      simp only [Eff.run, Option.some.injEq, Prod.mk.injEq] at he
      obtain ⟨rfl, rfl⟩ := he
      exact ⟨σ2, hf, rfl⟩
  | read i g =>
    cases f with
    | pure r =>
      cases r with
      | none => simp [Eff.run] at hf
      | some r =>
        simp only [Eff.run, Option.some.injEq, Prod.mk.injEq] at hf
        obtain ⟨rfl, rfl⟩ := hf
        exact ⟨σ, rfl, he⟩
    | read j k =>
      obtain ⟨ob, h1, h2, rfl⟩ := eff_read he
      obtain ⟨ob', h3, h4, rfl⟩ := eff_read hf
      exact ⟨σ2, hf, he⟩
    | write j k =>
      obtain ⟨ob, h1, h2, rfl⟩ := eff_read he
      obtain ⟨ob1, ob2, h3, h4, rfl⟩ := eff_write hf
      simp only [Eff.comm, bne_iff_ne, ne_eq] at hc
      refine ⟨_, hf, ?_⟩
      simp only [Eff.run]
      rw [List.getElem?_set_ne (fun e => hc e.symm), h1]
      simp only [h2]
    | new os k => simp [Eff.comm] at hc
    | full k => simp [Eff.comm] at hc
  | write i g =>
    cases f with
    | pure r =>
      cases r with
      | none => simp [Eff.run] at hf
      | some r =>
        simp only [Eff.run, Option.some.injEq, Prod.mk.injEq] at hf
        obtain ⟨rfl, rfl⟩ := hf
        exact ⟨σ, rfl, he⟩
    | read j k =>
      obtain ⟨ob, ob1, h1, h2, rfl⟩ := eff_write he
      obtain ⟨ob', h3, h4, rfl⟩ := eff_read hf
      simp only [Eff.comm, bne_iff_ne, ne_eq] at hc
      rw [List.getElem?_set_ne hc] at h3
      refine ⟨σ, ?_, ?_⟩
      · simp only [Eff.run, h3, h4]
      · simp only [Eff.run, h1, h2]
    | write j k =>
      obtain ⟨ob, ob1, h1, h2, rfl⟩ := eff_write he
      obtain ⟨ob2, ob3, h3, h4, rfl⟩ := eff_write hf
      simp only [Eff.comm, bne_iff_ne, ne_eq] at hc
      rw [List.getElem?_set_ne hc] at h3
      refine ⟨σ.set j ob3, ?_, ?_⟩
      · simp only [Eff.run, h3, h4]
      · simp only [Eff.run]
        rw [List.getElem?_set_ne (fun e => hc e.symm), h1]
        simp only [h2]
        rw [List.set_comm _ _ (fun e => hc e.symm)]
    | new os k => simp [Eff.comm] at hc
    | full k => simp [Eff.comm] at hc
  | new os g =>
    cases f with
    | pure r =>
      cases r with
      | none => simp [Eff.run] at hf
      | some r =>
        simp only [Eff.run, Option.some.injEq, Prod.mk.injEq] at hf
        obtain ⟨rfl, rfl⟩ := hf
        exact ⟨σ, rfl, he⟩
    | _ => simp [Eff.comm] at hc
  | full g =>
    cases f with
    | pure r =>
      cases r with
      | none => simp [Eff.run] at hf
      | some r =>
        simp only [Eff.run, Option.some.injEq, Prod.mk.injEq] at hf
        obtain ⟨rfl, rfl⟩ := hf
        exact ⟨σ, rfl, he⟩
    | _ => simp [Eff.comm] at hc

theorem comm_symm {e f : Eff} (h : e.comm f = true) : f.comm e = true := by
  cases e <;> cases f <;> simp_all [Eff.comm] <;> exact fun e => h e.symm

theorem put_comm {tm : Nat → AV} {d d' : Option Nat} {v v' : AV} (h : ∀ t, d = some t → d' ≠ some t) : put (put tm d v) d' v' = put (put tm d' v') d v := by
  cases d with
  | none => rfl
  | some d =>
    cases d' with
    | none => rfl
    | some d' =>
      funext t
      simp only [put]
      by_cases h1 : t = d
      · subst h1
        have : ¬ t = d' := fun e => h t rfl (by rw [e])
        rw [if_neg this, if_pos rfl, if_pos rfl]
      · rw [if_neg h1, if_neg h1]

theorem swap {k i : Nat} {s s1 s2 : ASt} {ek ei : Eff} (hap : ∀ ok oi, ops[k]? = some ok → ops[i]? = some oi → ok.apart ops oi = true) (hc : ek.comm ei = true) (hk : stepE E nt ops k s = some (ek, s1)) (hi : stepE E nt ops i s1 = some (ei, s2)) :
    ∃ s1', stepE E nt ops i s = some (ei, s1') ∧ stepE E nt ops k s1' = some (ek, s2) := by
  obtain ⟨ok, v, σ1, ho, he, hd, hr, rfl⟩ := stepE_iff.1 hk
  obtain ⟨oi, u, σ2, ho', he', hd', hr', rfl⟩ := stepE_iff.1 hi
  obtain ⟨h1, h2, h3⟩ := Oper.apart_spec (hap ok oi ho ho')
  obtain ⟨σ', hf, hg⟩ := comm_run hc hr hr'
  rw [effW_put (fun t ht => h1 t ht)] at he'
  refine ⟨⟨put s.tm oi.dst u, σ'⟩, stepE_iff.2 ⟨oi, u, σ', ho', he', hd', hf, rfl⟩, stepE_iff.2 ⟨ok, v, σ2, ho, ?_, hd, hg, ?_⟩⟩
  · rw [effW_put (fun t ht => h3 t ht)]; exact he
  · simp only [ASt.mk.injEq, and_true]
    exact put_comm (fun t ht => h2 t ht)

/-- A run, with what each operation does; pairs that may come either way round touch no memory in common. -/
def Good (E : Env) (nt : Nat) (ops : Array Oper) (fr : Nat → Nat → Prop) : List Nat → ASt → ASt → Prop
  | l, s, s' => ∃ es, runE E nt ops l s = some (es, s') ∧ ∀ (p q : Nat) (i j : Nat) (e f : Eff), p < q → l[p]? = some i → l[q]? = some j → es[p]? = some e → es[q]? = some f → fr i j → e.comm f = true

theorem runE_cons {i : Nat} {l : List Nat} {s s' : ASt} {es : List Eff} : runE E nt ops (i :: l) s = some (es, s') ↔ ∃ e s1 es', stepE E nt ops i s = some (e, s1) ∧ runE E nt ops l s1 = some (es', s') ∧ es = e :: es' := by
  simp only [runE]
  constructor
  · intro h
    split at h
    · rename_i e s1 he
      split at h
      · rename_i es' s2 hr
        simp only [Option.some.injEq, Prod.mk.injEq] at h
        obtain ⟨rfl, rfl⟩ := h
        exact ⟨e, s1, es', he, hr, rfl⟩
      · cases h
    · cases h
  · rintro ⟨e, s1, es', h1, h2, rfl⟩
    simp only [h1, h2]

theorem runE_app {l r : List Nat} : ∀ {s s' : ASt} {es : List Eff}, runE E nt ops (l ++ r) s = some (es, s') ↔ ∃ s1 es1 es2, runE E nt ops l s = some (es1, s1) ∧ runE E nt ops r s1 = some (es2, s') ∧ es = es1 ++ es2 := by
  induction l with
  | nil =>
    intro s s' es
    simp only [List.nil_append, runE]
    constructor
    · intro h; exact ⟨s, [], es, rfl, h, rfl⟩
    · rintro ⟨s1, es1, es2, h1, h2, rfl⟩
      simp only [Option.some.injEq, Prod.mk.injEq] at h1
      obtain ⟨rfl, rfl⟩ := h1
      simpa using h2
  | cons i l ih =>
    intro s s' es
    simp only [List.cons_append, runE_cons]
    constructor
    · rintro ⟨e, s1, es', h1, h2, rfl⟩
      obtain ⟨s2, a, b, g1, g2, rfl⟩ := ih.1 h2
      exact ⟨s2, e :: a, b, ⟨e, s1, a, h1, g1, rfl⟩, g2, rfl⟩
    · rintro ⟨s1, es1, es2, ⟨e, s2, a, h1, h2, rfl⟩, h3, rfl⟩
      exact ⟨e, s2, a ++ es2, h1, ih.2 ⟨s1, a, es2, h2, h3, rfl⟩, rfl⟩

theorem runE_len : ∀ {l : List Nat} {s s' : ASt} {es : List Eff}, runE E nt ops l s = some (es, s') → es.length = l.length
  | [], s, s', es, h => by simp only [runE, Option.some.injEq, Prod.mk.injEq] at h; obtain ⟨rfl, rfl⟩ := h; rfl
  | i :: l, s, s', es, h => by
    obtain ⟨e, s1, es', _, h2, rfl⟩ := runE_cons.1 h
    simp [runE_len h2]

/-- One is taken to the front. -/
theorem front {fr : Nat → Nat → Prop} {i : Nat} : ∀ {l r : List Nat} {s s' : ASt} {es : List Eff}, (∀ k ∈ l, ∀ ok oi, ops[k]? = some ok → ops[i]? = some oi → ok.apart ops oi = true) → (∀ k ∈ l, fr k i) →
    runE E nt ops (l ++ i :: r) s = some (es, s') → (∀ (p q : Nat) (i' j : Nat) (e f : Eff), p < q → (l ++ i :: r)[p]? = some i' → (l ++ i :: r)[q]? = some j → es[p]? = some e → es[q]? = some f → fr i' j → e.comm f = true) →
    ∃ e s1 es1 es2, es = es1 ++ e :: es2 ∧ es1.length = l.length ∧ stepE E nt ops i s = some (e, s1) ∧ runE E nt ops (l ++ r) s1 = some (es1 ++ es2, s')
  | [], r, s, s', es, _, _, h, _ => by
    obtain ⟨e, s1, es', h1, h2, rfl⟩ := runE_cons.1 h
    exact ⟨e, s1, [], es', rfl, rfl, h1, h2⟩
  | k :: l, r, s, s', es, ha, hf, h, hc => by
    rw [List.cons_append] at h
    obtain ⟨ek, s1, es', h1, h2, rfl⟩ := runE_cons.1 h
    obtain ⟨e, s2, es1, es2, rfl, hl, g1, g2⟩ := front (l := l) (fun k hk => ha k (by simp [hk])) (fun k hk => hf k (by simp [hk])) h2 (fun p q i' j e f hpq h3 h4 h5 h6 hfr => hc (p + 1) (q + 1) i' j e f (by omega) (by simpa using h3) (by simpa using h4) (by simpa using h5) (by simpa using h6) hfr)
    have hcomm : ek.comm e = true := hc 0 (l.length + 1) k i ek e (by omega) (by simp) (by simp) (by simp) (by simp [← hl]) (hf k (by simp))
    obtain ⟨s1', k1, k2⟩ := swap (fun ok oi => ha k (by simp) ok oi) hcomm h1 g1
    exact ⟨e, s1', ek :: es1, es2, rfl, by simp [hl], k1, runE_cons.2 ⟨ek, s2, es1 ++ es2, k2, g2, rfl⟩⟩

end Go.Ab
