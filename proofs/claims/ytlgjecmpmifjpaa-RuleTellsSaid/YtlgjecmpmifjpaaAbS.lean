/-
  A region that draws its order comes to what it comes to in the text's order.
-/
import Derived.Test.YtlgjecmpmifjpaaAbR
set_option linter.unusedVariables false
set_option linter.unusedSimpArgs false
namespace Go.Ab
open Go.RowKit

variable {P : Program} {M : Mem} {B : List Gh} {D : List Nat} {σ σ' : Store} {base nt : Nat} {w0 w : World}
variable {E : Env} {ops : Array Oper} {a : Act}

theorem quiet_pure {op : Op} (h : quietO op = true) (dst : Option Nat) (ev : Operand → Option AV) : ∃ r, opEff E dst ev op = .pure r := by
  cases op <;> simp only [quietO, Bool.false_eq_true] at h <;> simp only [opEff]
  case pick c x y => split <;> exact ⟨_, rfl⟩
  case build T ps => split <;> exact ⟨_, rfl⟩
  case binOp => split <;> exact ⟨_, rfl⟩
  case unOp => split <;> exact ⟨_, rfl⟩
  case convert => split <;> exact ⟨_, rfl⟩
  case makeFunc f x y =>
    cases f <;> simp only [opEff]
    all_goals (first | exact ⟨_, rfl⟩ | (split <;> exact ⟨_, rfl⟩))
  case fieldAddr => split <;> exact ⟨_, rfl⟩
  case extract => split <;> exact ⟨_, rfl⟩

theorem comm_pure_left {r : Option AV} {f : Eff} : (Eff.pure r).comm f = true := by cases f <;> rfl
theorem comm_pure_right {r : Option AV} {f : Eff} : f.comm (Eff.pure r) = true := by cases f <;> rfl

theorem effW_quiet {o : Oper} {tm : Nat → AV} {e : Eff} (h : quietO o.op = true) (he : effW E ops o tm = some e) : ∃ r, e = .pure r := by
  unfold effW at he
  split at he
  · injection he with he
    obtain ⟨r, hr⟩ := quiet_pure (E := E) h o.dst (evA tm)
    exact ⟨r, he.symm.trans hr⟩
  · injection he with he
    exact ⟨_, he.symm⟩
  · cases he

/-- May two come either way round? -/
def FrP (ops : Array Oper) (i j : Nat) : Prop := (i, j) ∈ freeP ops

theorem freeP_mem {k i : Nat} (hi : i < ops.size) (hk : k < i) (hf : forcedB ops ops.size k i = false) : (k, i) ∈ freeP ops := by
  unfold freeP
  simp only [List.mem_flatMap, List.mem_range, List.mem_map, List.mem_filter, Prod.mk.injEq]
  exact ⟨i, hi, k, ⟨hk, by simp [hf]⟩, rfl, rfl⟩

theorem freeP_lt {k i : Nat} (h : (k, i) ∈ freeP ops) : k < i ∧ i < ops.size := by
  unfold freeP at h
  simp only [List.mem_flatMap, List.mem_range, List.mem_map, List.mem_filter, Prod.mk.injEq] at h
  obtain ⟨i', hi, k', ⟨hk, _⟩, rfl, rfl⟩ := h
  exact ⟨hk, hi⟩

theorem runE_get : ∀ {l : List Nat} {s s' : ASt} {es : List Eff} {p i : Nat} {e : Eff}, runE E nt ops l s = some (es, s') → l[p]? = some i → es[p]? = some e → ∃ s1 s2, stepE E nt ops i s1 = some (e, s2)
  | [], s, s', es, p, i, e, _, h, _ => by simp at h
  | j :: l, s, s', es, 0, i, e, h, hi, he => by
    obtain ⟨e1, s1, es', h1, _, rfl⟩ := runE_cons.1 h
    simp only [List.getElem?_cons_zero, Option.some.injEq] at hi he
    subst hi; subst he
    exact ⟨s, s1, h1⟩
  | j :: l, s, s', es, p + 1, i, e, h, hi, he => by
    obtain ⟨e1, s1, es', _, h2, rfl⟩ := runE_cons.1 h
    exact runE_get h2 (by simpa using hi) (by simpa using he)

/-- What the check of a drawn region says. -/
theorem draw_comm {s s' : ASt} {es : List Eff} (hr : runE E nt ops (List.range ops.size) s = some (es, s')) (hc : (freeM ops).all (fun x => (es.getD x.1 (.pure none)).comm (es.getD x.2 (.pure none))) = true) :
    ∀ (p q : Nat) (i j : Nat) (e f : Eff), p < q → (List.range ops.size)[p]? = some i → (List.range ops.size)[q]? = some j → es[p]? = some e → es[q]? = some f → FrP ops i j → e.comm f = true := by
  intro p q i j e f hpq hi hj he hf hfr
  obtain ⟨s1, s2, hs⟩ := runE_get hr hi he
  obtain ⟨s3, s4, hs'⟩ := runE_get hr hj hf
  obtain ⟨oi, _, _, hoi, hei, _⟩ := stepE_iff.1 hs
  obtain ⟨oj, _, _, hoj, hej, _⟩ := stepE_iff.1 hs'
  have hpi : p = i := by
    have := (List.getElem?_eq_some_iff.1 hi).2
    simpa using this
  have hqj : q = j := by
    have := (List.getElem?_eq_some_iff.1 hj).2
    simpa using this
  subst hpi; subst hqj
  by_cases h1 : quietO oi.op = true
  · obtain ⟨r, rfl⟩ := effW_quiet h1 hei
    exact comm_pure_left
  · by_cases h2 : quietO oj.op = true
    · obtain ⟨r, rfl⟩ := effW_quiet h2 hej
      exact comm_pure_right
    · have hm : (p, q) ∈ freeM ops := by
        unfold freeM
        rw [List.mem_filter]
        refine ⟨hfr, ?_⟩
        simp only [hoi, hoj]
        simp [h1, h2]
      have := List.all_eq_true.1 hc _ hm
      simpa [List.getD_eq_getElem?_getD, he, hf] using this

theorem order_spec (h : orderB ops = true) : (∀ i o, ops[i]? = some o → ∀ e ∈ o.after, Region.binds .any e = true → e.on < i) ∧ (∀ k i, (k, i) ∈ freeP ops → ∀ ok oi, ops[k]? = some ok → ops[i]? = some oi → ok.apart ops oi = true) := by
  unfold orderB at h
  rw [Bool.and_eq_true, List.all_eq_true, List.all_eq_true] at h
  obtain ⟨h1, h2⟩ := h
  refine ⟨fun i o ho e he hb => ?_, fun k i hm ok oi hk hi => ?_⟩
  · have := h1 i (List.mem_range.2 (Array.getElem?_eq_some_iff.1 ho).1)
    simp only [ho] at this
    rw [Array.all_eq_true_iff_forall_mem] at this
    have := this e he
    simpa [hb] using this
  · have := h2 _ hm
    simpa [hk, hi] using this

def Lst (listed : Array Bool) (k : Nat) : Prop := listed.getD k false = true

theorem forced_listed {listed : Array Bool} (hcl : ∀ j o, Lst listed j → ops[j]? = some o → ∀ e ∈ o.after, Region.binds .any e = true → Lst listed e.on) : ∀ (n k i : Nat), Lst listed i → forcedB ops n k i = true → Lst listed k
  | 0, k, i, _, h => by simp [forcedB] at h
  | n + 1, k, i, hi, h => by
    unfold forcedB at h
    split at h
    · rename_i o ho
      rw [Bool.or_eq_true] at h
      rcases h with h | h
      · rw [Array.any_eq_true'] at h
        obtain ⟨e, he, h⟩ := h
        simp only [Bool.and_eq_true, beq_iff_eq] at h
        rw [← h.2]
        exact hcl i o hi ho e he h.1
      · rw [Array.any_eq_true'] at h
        obtain ⟨e, he, h⟩ := h
        simp only [Bool.and_eq_true] at h
        exact forced_listed hcl n k e.on (hcl i o hi ho e he h.1) h.2
    · cases h

theorem ready_forced {listed : Array Bool} (hcl : ∀ j o, Lst listed j → ops[j]? = some o → ∀ e ∈ o.after, Region.binds .any e = true → Lst listed e.on) {n k i : Nat} (hi : i ∈ Region.ready .any ops listed) (h : forcedB ops n k i = true) : Lst listed k := by
  obtain ⟨_, o, ho, hall⟩ := mem_ready.1 hi
  cases n with
  | zero => simp [forcedB] at h
  | succ n =>
    unfold forcedB at h
    rw [ho] at h
    simp only [Bool.or_eq_true] at h
    rcases h with h | h
    · rw [Array.any_eq_true'] at h
      obtain ⟨e, he, h⟩ := h
      simp only [Bool.and_eq_true, beq_iff_eq] at h
      rw [← h.2]
      exact hall e he h.1
    · rw [Array.any_eq_true'] at h
      obtain ⟨e, he, h⟩ := h
      simp only [Bool.and_eq_true] at h
      exact forced_listed hcl n k e.on (hall e he h.1) h.2

/-- One operation of a region, done first. -/
theorem stepE_wp (S : Sound P E) {ro : Option Nat} {Q : Exit → Act → World → Prop} {K : Act → World → Prop} {i : Nat} {s s1 : ASt} {e : Eff} (h : StOK P M B D s.st base w0 w) (hf : FrOK M B nt s.tm a.tmps) (hs : stepE E nt ops i s = some (e, s1))
    (hk : ∀ M' B' a' w', Ext base M M' B B' → StOK P M' B' D s1.st base w0 w' → FrOK M' B' nt s1.tm a'.tmps → a'.defers = a.defers → K a' w') : wpOpIn (W ro) 0 P ops Q i K a w := by
  obtain ⟨o, v, σ1, ho, he, hd, hr, rfl⟩ := stepE_iff.1 hs
  unfold wpOpIn
  simp only [ho]
  unfold effW at he
  split at he
  · rename_i hw
    injection he with he
    subst he
    rw [want_ok hf hw, if_pos rfl]
    refine oper_step S h hf hr ?_
    rintro val w' ⟨M1, B1, e1, h1, r1⟩
    exact hk M1 B1 _ w' e1 h1 ((hf.ext e1).put hd r1) (by cases o.dst <;> rfl)
  · rename_i hw
    injection he with he
    subst he
    rw [want_ok hf hw]
    obtain ⟨hv, rfl⟩ := eff_pure hr
    injection hv with hv
    subst hv
    simp only [Bool.false_eq_true, if_false]
    exact ⟨fun _ _ => trivial, hk M B _ w (Ext.refl _ _ _) h (hf.put hd undef_rel) (by cases o.dst <;> rfl)⟩
  · cases he

theorem any_ok (S : Sound P E) {ro : Option Nat} {Q : Exit → Act → World → Prop} (hord : orderB ops = true) {s' : ASt} : ∀ (l : List Nat) (listed : Array Bool) {s : ASt} {es : List Eff} {M : Mem} {B : List Gh} {a : Act} {w : World},
    listed.size = ops.size → (∀ k, k ∈ l ↔ k < ops.size ∧ ¬ Lst listed k) → l.Pairwise (· < ·) → (∀ j o, Lst listed j → ops[j]? = some o → ∀ e ∈ o.after, Region.binds .any e = true → Lst listed e.on) →
    runE E nt ops l s = some (es, s') → (∀ (p q : Nat) (i j : Nat) (e f : Eff), p < q → l[p]? = some i → l[q]? = some j → es[p]? = some e → es[q]? = some f → FrP ops i j → e.comm f = true) →
    StOK P M B D s.st base w0 w → FrOK M B nt s.tm a.tmps →
    (∀ M' B' a' w', Ext base M M' B B' → StOK P M' B' D s'.st base w0 w' → FrOK M' B' nt s'.tm a'.tmps → a'.defers = a.defers → Q .normal a' w') → wpAnyIn (W ro) 0 P .any ops Q l.length listed a w := by
  intro l
  generalize hn : l.length = n
  induction n generalizing l with
  | zero =>
    intro listed s es M B a w hsz hmem hsort hcl hr hc h hf hq
    obtain rfl := List.length_eq_zero_iff.1 hn
    simp only [runE, Option.some.injEq, Prod.mk.injEq] at hr
    obtain ⟨rfl, rfl⟩ := hr
    refine ⟨?_, hq M B a w (Ext.refl _ _ _) h hf rfl⟩
    apply List.eq_nil_iff_forall_not_mem.2
    intro i hi
    obtain ⟨h0, o, ho, _⟩ := mem_ready.1 hi
    have hlt := (Array.getElem?_eq_some_iff.1 ho).1
    have := (hmem i).2 ⟨hlt, by
      unfold Lst
      simp [Array.getD, hsz, hlt] at h0 ⊢
      exact h0⟩
    simp at this
  | succ n ih =>
    intro listed s es M B a w hsz hmem hsort hcl hr hc h hf hq
    have hunl : ∀ i, i < ops.size → (listed.getD i true = false ↔ ¬ Lst listed i) := fun i hlt => by
      unfold Lst
      simp [Array.getD, hsz, hlt]
    refine ⟨fun hno => ?_, fun i hi => ?_⟩
    · exfalso
      match l, hn with
      | i :: r, _ =>
        have hi := (hmem i).1 (by simp)
        obtain ⟨o, ho⟩ : ∃ o, ops[i]? = some o := ⟨_, Array.getElem?_eq_getElem hi.1⟩
        have : i ∈ Region.ready .any ops listed := mem_ready.2 ⟨(hunl i hi.1).2 hi.2, o, ho, fun e he hb => by
          have hlt := (order_spec hord).1 i o ho e he hb
          by_cases hL : Lst listed e.on
          · exact hL
          · have := (hmem e.on).2 ⟨by omega, hL⟩
            rcases List.mem_cons.1 this with e1 | e1
            · omega
            · have := (List.pairwise_cons.1 hsort).1 _ e1
              omega⟩
        rw [hno] at this
        simp at this
    · obtain ⟨h0, o, ho, hall⟩ := mem_ready.1 hi
      have hlt := (Array.getElem?_eq_some_iff.1 ho).1
      have hil : i ∈ l := (hmem i).2 ⟨hlt, (hunl i hlt).1 h0⟩
      obtain ⟨l1, r, rfl⟩ := List.append_of_mem hil
      have hs1 := List.pairwise_append.1 hsort
      have hk : ∀ k ∈ l1, (k, i) ∈ freeP ops := fun k hk => by
        have hlt' : k < i := hs1.2.2 k hk i (by simp)
        refine freeP_mem hlt hlt' ?_
        cases hfc : forcedB ops ops.size k i with
        | false => rfl
        | true => exact absurd (ready_forced hcl hi hfc) ((hmem k).1 (by simp [hk])).2
      obtain ⟨e, s1, es1, es2, rfl, hl, hstep, hrun⟩ := front (fr := FrP ops) (fun k hkk ok oi h1 h2 => (order_spec hord).2 k i (hk k hkk) ok oi h1 h2) (fun k hkk => hk k hkk) hr hc
      have hlen2 := runE_len hr
      refine stepE_wp S h hf hstep ?_
      intro M1 B1 a1 w1 e1 h1 hf1 hd1
      have hni : i ∉ l1 ++ r := by
        intro hm
        rcases List.mem_append.1 hm with hm | hm
        · have := hs1.2.2 i hm i (by simp)
          omega
        · have := (List.pairwise_cons.1 hs1.2.1).1 i hm
          omega
      have hlst : ∀ k, Lst (listed.setIfInBounds i true) k ↔ (k = i ∨ Lst listed k) := fun k => by
        unfold Lst
        by_cases hki : i = k
        · subst hki
          simp [Array.getD, hsz, hlt]
        · rw [getD_set_ne false hki]
          constructor
          · exact fun h => .inr h
          · rintro (h | h)
            · exact absurd h.symm hki
            · exact h
      refine ih (l1 ++ r) (by simp at hn ⊢; omega) (listed.setIfInBounds i true) (by simpa using hsz) ?_ ?_ ?_ hrun ?_ h1 hf1 ?_
      · intro k
        rw [hlst]
        constructor
        · intro hkm
          have hne : k ≠ i := fun e => hni (e ▸ hkm)
          have := (hmem k).1 (by simp at hkm ⊢; rcases hkm with h | h <;> simp [h])
          exact ⟨this.1, fun h => h.elim hne this.2⟩
        · rintro ⟨h1, h2⟩
          have := (hmem k).2 ⟨h1, fun h => h2 (.inr h)⟩
          simp only [List.mem_append, List.mem_cons] at this ⊢
          rcases this with h | h | h
          · exact .inl h
          · exact absurd (.inl h) h2
          · exact .inr h
      · refine List.pairwise_append.2 ⟨hs1.1, (List.pairwise_cons.1 hs1.2.1).2, fun x hx y hy => hs1.2.2 x hx y (by simp [hy])⟩
      · intro j oj hj hoj e he hb
        rw [hlst] at hj ⊢
        rcases hj with rfl | hj
        · rw [ho] at hoj
          injection hoj with hoj
          subst hoj
          exact .inr (hall e he hb)
        · exact .inr (hcl j oj hj hoj e he hb)
      · intro p q i' j' e' f' hpq g1 g2 g3 g4 hfr
        have sh : ∀ {α : Type} {xs ys : List α} {z : α} {p : Nat} {x : α}, (xs ++ ys)[p]? = some x → (xs ++ z :: ys)[if p < xs.length then p else p + 1]? = some x := by
          intro α xs ys z p x hx
          split
          · rename_i hp
            rw [List.getElem?_append_left hp] at hx ⊢
            exact hx
          · rename_i hp
            rw [List.getElem?_append_right (by omega)] at hx ⊢
            rw [show p + 1 - xs.length = (p - xs.length) + 1 by omega, List.getElem?_cons_succ]
            exact hx
        refine hc (if p < l1.length then p else p + 1) (if q < l1.length then q else q + 1) i' j' e' f' ?_ (sh g1) (sh g2) ?_ ?_ hfr
        · split <;> split <;> omega
        · rw [← hl]; exact sh g3
        · rw [← hl]; exact sh g4
      · exact fun M' B' a' w' e2 h2 hf2 hd2 => hq M' B' a' w' (e1.trans e2) h2 hf2 (hd2.trans hd1)

/-- **A region that draws its order.** -/
theorem draw_ok (S : Sound P E) {ro : Option Nat} {Q : Exit → Act → World → Prop} {id : Nat} {s s' : ASt} (hm : P.follows .mixedOrders = true) (hr : drawA E nt ops s = some s') (h : StOK P M B D s.st base w0 w) (hf : FrOK M B nt s.tm a.tmps)
    (hq : ∀ M' B' a' w', Ext base M M' B B' → StOK P M' B' D s'.st base w0 w' → FrOK M' B' nt s'.tm a'.tmps → a'.defers = a.defers → Q .normal a' w') : (Code.region id ops true).wpIn (W ro) 0 P Q a w := by
  unfold drawA at hr
  split at hr
  · rename_i es s1 hrun
    split at hr
    · rename_i hc
      rw [Bool.and_eq_true] at hc
      injection hr with hr
      subst hr
      refine wpIn_region_any hm ?_
      have hsz : (Array.replicate ops.size false).size = ops.size := by simp
      have hno : ∀ k, ¬ Lst (Array.replicate ops.size false) k := fun k => by
        unfold Lst
        by_cases hk : k < ops.size <;> simp [Array.getD, hk]
      have := any_ok S (ro := ro) (Q := Q) (w0 := w0) (base := base) (D := D) hc.1 (List.range ops.size) (Array.replicate ops.size false) (a := a) (w := w.drew) hsz
        (fun k => by simp [List.mem_range, hno k]) (List.pairwise_lt_range) (fun j o hj => absurd hj (hno j)) hrun (draw_comm hrun hc.2) h.drew hf hq
      rw [List.length_range] at this
      exact this
    · cases hr
  · cases hr

end Go.Ab
