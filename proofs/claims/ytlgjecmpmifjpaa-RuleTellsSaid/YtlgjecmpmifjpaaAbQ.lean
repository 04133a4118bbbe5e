/-
  An operation, a row of operations, a region in its order.
-/
import Derived.Test.YtlgjecmpmifjpaaAbP
set_option linter.unusedVariables false
set_option linter.unusedSimpArgs false
namespace Go.Ab
open Go.RowKit

variable {P : Program} {M : Mem} {B : List Gh} {D : List Nat} {σ σ' : Store} {base nt : Nat} {w0 w : World}
variable {E : Env} {tm : Nat → AV} {a : Act} {o : Oper} {v : AV}

structure Sound (P : Program) (E : Env) : Prop where
  P_eq : E.P = P
  inv : InvOK P E.inv
  pr : PrOK P E.pr

/-- The fence that lets all in; the frame may be a round's. -/
def W (ro : Option Nat) : Fence := { Fence.wide with round := ro }

theorem callsIn_W {ro : Option Nat} {n m : Nat} {f : FuncId} {args : Array Value} {R : Ending → World → Prop} (h : CallsIn Fence.wide m P f args w R) : CallsIn (W ro) n P f args w R :=
  ⟨trivial, fun cs _ => h.2 cs (room_wide _)⟩
theorem roundIn_W {ro : Option Nat} {n m l : Nat} {f : FuncId} {tmps : Array Value} {assign body : Code} {R : Ending → World → Prop} (h : RoundIn Fence.wide m P l f tmps assign body w R) : RoundIn (W ro) n P l f tmps assign body w R :=
  ⟨trivial, fun c cs _ => h.2 c cs (room_wide _)⟩
theorem roundIn_of_W {ro : Option Nat} {n m l : Nat} {f : FuncId} {tmps : Array Value} {assign body : Code} {R : Ending → World → Prop} (h : RoundIn (W ro) m P l f tmps assign body w R) : RoundIn Fence.wide n P l f tmps assign body w R :=
  ⟨trivial, fun c cs _ => h.2 c cs (fun _ h => by simp [W, Fence.wide] at h)⟩

theorem CallsTo.at {fv : Value} {avs : Array Value} {post : Value → World → Prop} {w' : World} (h : CallsTo P fv avs w post) : CallsTo P fv avs w post := h

theorem done_weak {M0 : Mem} {B0 : List Gh} (e : Ext base M0 M B0 B) {val : Value} {w' : World} (h : Done P M B D σ base w0 v val w') : Done P M0 B0 D σ base w0 v val w' := by
  obtain ⟨M', B', e', h', r'⟩ := h
  exact ⟨M', B', e.trans e', h', r'⟩

theorem call_ok (S : Sound P E) (h : StOK P M B D σ base w0 w) {fa : AV} {args : List AV} {fv : Value} {avs : Array Value} (hfv : RelV M B fa fv) (hargs : RelVT M B args avs.toList)
    (he : (callEff E fa args).run σ = some (v, σ')) : CallsTo P fv avs w fun val w' => Done P M B D σ' base w0 v val w' := by
  have shared : ∀ {fa' : AV}, RelV M B fa' fv → (sharedEff E fa' args).run σ = some (v, σ') → CallsTo P fv avs w fun val w' => Done P M B D σ' base w0 v val w' := by
    intro fa' hfa he
    simp only [sharedEff, Eff.run] at he
    obtain ⟨M1, e1, h1, hf⟩ := fzAll_ok (args.flatMap ownIds) h
    exact (S.inv _ _ _ _ _ he M1 B D base w0 w fv avs h1 (RelV.ext e1 hfa) (argA_ok h e1.mem hargs hf)).mono fun val w' hd => done_weak e1 hd
  unfold callEff at he
  split at he
  · rename_i f x y
    obtain ⟨rfl, hs⟩ := relV_val hfv
    simp only [scalarB, Bool.and_eq_true, beq_iff_eq] at hs
    obtain ⟨hx, hy⟩ := hs
    obtain rfl := Array.eq_empty_of_size_eq_zero hx
    obtain rfl := Array.eq_empty_of_size_eq_zero hy
    split at he
    · refine shared ?_ he
      simp only [RelV, RelVT]
      exact ⟨#[], #[], rfl, rfl, rfl⟩
    · unfold pureEff at he
      split at he
      · rename_i hids
        split at he
        · rename_i ps hps
          obtain ⟨hr, rfl⟩ := eff_pure he
          have hrel : ∀ B', RelVT M B' (ps.map .p) avs.toList := by
            have key : ∀ {cs : List AV} {xs : List PV} {vs : List Value}, frzL [] cs = some xs → RelVT M B cs vs → ∀ B', RelVT M B' (xs.map .p) vs := by
              have one : ∀ {c : AV} {x : PV} {u : Value}, c.one = true → frz [] c = some x → RelV M B c u → RelP M x u ∧ x.one = true := by
                intro c x u h1 hx hv
                cases c with
                | p y =>
                  simp only [frz, Option.some.injEq] at hx; subst hx
                  exact ⟨by simpa only [RelV] using hv, by simpa [AV.one] using h1⟩
                | e0 =>
                  simp only [frz, Option.some.injEq] at hx; subst hx
                  simp only [RelV] at hv; subst hv
                  refine ⟨?_, rfl⟩
                  simp only [RelP]
                  exact ⟨none, 0, 0, rfl, rfl, Nat.le_refl _, .inl trivial⟩
                | own id n => simp [frz] at hx
                | agg cs => simp [AV.one] at h1
                | _ => simp [frz] at hx
              have cells : ∀ {cs : List AV} {xs : List PV} {vs : List Value}, frzL [] cs = some xs → RelVC M B cs vs → RelC M xs vs := by
                intro cs
                induction cs with
                | nil =>
                  intro xs vs hx hv
                  simp only [frzL, Option.some.injEq] at hx; subst hx
                  simpa only [RelVC, RelC] using hv
                | cons c cs ih =>
                  intro xs vs hx hv
                  simp only [frzL] at hx
                  split at hx
                  · rename_i x hx1
                    split at hx
                    · rename_i xs' hx2
                      injection hx with hx; subst hx
                      simp only [RelVC] at hv
                      obtain ⟨u, r, rfl, g1, g2, g3, g4⟩ := hv
                      obtain ⟨k1, k2⟩ := one g1 hx1 g3
                      simp only [RelC]
                      exact ⟨u, r, rfl, k2, k1, ih hx2 g4⟩
                    · cases hx
                  · cases hx
              intro cs
              induction cs with
              | nil =>
                intro xs vs hx hv B'
                simp only [frzL, Option.some.injEq] at hx; subst hx
                simpa only [RelVT, List.map_nil] using hv
              | cons c cs ih =>
                intro xs vs hx hv B'
                simp only [frzL] at hx
                split at hx
                · rename_i x hx1
                  split at hx
                  · rename_i xs' hx2
                    injection hx with hx; subst hx
                    simp only [RelVT] at hv
                    obtain ⟨u, r, rfl, g1, g2⟩ := hv
                    simp only [List.map_cons, RelVT]
                    refine ⟨u, r, rfl, ?_, ih hx2 g2 B'⟩
                    simp only [RelV]
                    by_cases h1 : c.one = true
                    · exact (one h1 hx1 g1).1
                    · cases c with
                      | p y =>
                        simp only [frz, Option.some.injEq] at hx1; subst hx1
                        simpa only [RelV] using g1
                      | agg ds =>
                        simp only [frz, Option.map_eq_some_iff] at hx1
                        obtain ⟨xs, hxs, rfl⟩ := hx1
                        simp only [RelV] at g1
                        obtain ⟨us, rfl, g1⟩ := g1
                        simp only [RelP]
                        exact ⟨us, rfl, cells hxs g1⟩
                      | e0 => simp [AV.one] at h1
                      | own id n => simp [AV.one] at h1
                      | _ => simp [frz] at hx1
                  · cases hx
                · cases hx
            exact key hps hargs
          refine (S.pr f ps v hr M w avs h.mem hrel).mono ?_
          rintro val w' ⟨M', hM, hold, hmem, hb, hv⟩
          obtain ⟨e, h'⟩ := h.after hM hold hmem hb
          exact ⟨M', B, e, h', hv B⟩
        · exact (eff_none he).elim
      · rename_i ids hids
        simp only [Eff.run] at he
        split at he
        · rename_i ps hps
          split at he
          · rename_i r hr
            simp only [Option.some.injEq, Prod.mk.injEq] at he
            obtain ⟨rfl, rfl⟩ := he
            obtain ⟨M1, e1, h1, hf⟩ := fzAll_ok (args.flatMap ownIds) h
            have hrel := frzL_ok h e1.mem hps hargs hf
            refine (S.pr f ps r hr M1 w avs h1.mem hrel).mono ?_
            rintro val w' ⟨M', hM, hold, hmem, hb, hv⟩
            obtain ⟨e, h'⟩ := h1.after hM hold hmem hb
            exact ⟨M', B, e1.trans e, h', hv B⟩
          · cases he
        · cases he
  · exact shared hfv he
  · exact shared hfv he
  · exact (eff_none he).elim

theorem op_not_defer {dst : Option Nat} {ev : Operand → Option AV} {op : Op} (he : (opEff E dst ev op).run σ = some (v, σ')) : ∀ c, op ≠ .defer c := by
  rintro c rfl
  exact (eff_none he).elim

/-- **One operation.** -/
theorem oper_step (S : Sound P E) {ro : Option Nat} (h : StOK P M B D σ base w0 w) (hf : FrOK M B nt tm a.tmps) (he : (opEff E o.dst (evA tm) o.op).run σ = some (v, σ'))
    {next : Act → World → Prop} {Q : Exit → Act → World → Prop} (hn : ∀ val w', Done P M B D σ' base w0 v val w' → next (a.put o.dst val) w') : o.wpIn (W ro) 0 P a w next Q := by
  refine ⟨fun _ _ => trivial, ?_⟩
  rw [Oper.semAt_eq _ _ _ (op_not_defer he)]
  cases hc : callB o.op with
  | false =>
    obtain ⟨nx, val, w', hrun, hx, hd⟩ := op_ok S.P_eq h hf hc he
    rw [hrun]
    rcases hx with rfl | ⟨rfl, rfl⟩
    · exact hn val w' hd
    · exact hn undef w' hd
  | true =>
    obtain ⟨dst, op, ty, guard, after, pos⟩ := o
    simp only at hc he hn
    cases op <;> simp only [callB, Bool.false_eq_true] at hc
    rename_i c
    split at hc
    · rename_i f hcf
      simp only [opEff, hcf] at he
      split at he
      · rename_i fa args hfa hargs
        obtain ⟨d, nx, h1, h2, _, h3⟩ := call_ok S (fv := a.eval f) (avs := c.args.map a.eval) h (evA_ok hf hfa) (by simpa using argsA_ok hf hargs) he
        have hrun : (execOp a.eval ⟨dst, .call c, ty, guard, after, pos⟩).run P w = .ok nx w := by
          simp [execOp, resolve, hcf, h1, h2]
        rw [hrun]
        cases nx with
        | enter f args =>
          refine ⟨fun h => by simp [W, Fence.wide] at h, callsIn_W (h3.mono ?_)⟩
          rintro e w' ⟨val, rfl, hd⟩
          exact hn val w' hd
        | round l f tmps assign body =>
          refine ⟨fun h => by simp [W, Fence.wide] at h, roundIn_W (h3.mono ?_)⟩
          rintro e w' ⟨val, rfl, hd⟩
          exact hn val w' hd
        | _ => exact h3.elim
      · exact (eff_none he).elim
    · cases hc

/-- Is an operation carried out? -/
theorem want_ok (hf : FrOK M B nt tm a.tmps) {ops : Array Oper} {b : Bool} (hw : wantA ops tm o = some b) : Region.wanted o (yielded ops a.tmps) = b := by
  unfold wantA at hw
  unfold Region.wanted
  split at hw
  · rename_i hg
    simp only [hg]
    injection hw
  · rename_i g want hg
    simp only [hg]
    split at hw
    · rename_i d hd
      split at hw
      · rename_i t ht
        have hr := hf.2 d
        rw [ht] at hr
        obtain ⟨hr, _⟩ := relV_val hr
        injection hw with hw
        subst hw
        have hlt : d < a.tmps.size := by
          rcases Nat.lt_or_ge d a.tmps.size with h | h
          · exact h
          · simp [Array.getD, Nat.not_lt.2 h, undef] at hr
        have hx : a.tmps[d]? = some (.bool t) := by
          simp only [Array.getD_eq_getD_getElem?] at hr
          rw [Array.getElem?_eq_getElem hlt] at hr ⊢
          simpa using hr
        cases t <;> cases want <;> simp [yielded, hd, hx]
      · rename_i ht
        have hr := hf.2 d
        rw [ht] at hr
        simp only [RelV, RelVT] at hr
        obtain ⟨us, hr, hu⟩ := hr
        injection hw with hw
        subst hw
        have : yielded ops a.tmps g = none := by
          unfold yielded
          simp only [hd, Option.bind_some]
          rcases Nat.lt_or_ge d a.tmps.size with h | h
          · rw [Array.getD_eq_getD_getElem?, Array.getElem?_eq_getElem h] at hr
            simp only [Option.getD_some] at hr
            rw [Array.getElem?_eq_getElem h, hr]
          · rw [Array.getElem?_eq_none h]
        rw [this]
        rfl
      · cases hw
    · cases hw

/-- **A row of operations, in one order.** -/
theorem run_ops (S : Sound P E) {ro : Option Nat} {ops : Array Oper} {Q : Exit → Act → World → Prop} : ∀ (l : List Nat) {s s' : ASt} {M : Mem} {B : List Gh} {a : Act} {w : World}, runA E nt ops l s = some s' → StOK P M B D s.st base w0 w → FrOK M B nt s.tm a.tmps →
    (∀ M' B' a' w', Ext base M M' B B' → StOK P M' B' D s'.st base w0 w' → FrOK M' B' nt s'.tm a'.tmps → a'.defers = a.defers → Q .normal a' w') → wpOpsIn (W ro) 0 P ops Q l a w
  | [], s, s', M, B, a, w, hr, h, hf, hq => by
    simp only [runA, Option.some.injEq] at hr
    subst hr
    exact hq M B a w (Ext.refl _ _ _) h hf rfl
  | i :: l, s, s', M, B, a, w, hr, h, hf, hq => by
    simp only [runA] at hr
    split at hr
    · rename_i o ho
      split at hr
      · rename_i s1 hs
        simp only [wpOpsIn, ho]
        unfold stepA at hs
        split at hs
        · cases hs
        · rename_i b hb
          rw [want_ok hf hb]
          split at hs
          · rename_i hd
            split at hs
            · rename_i hbt
              rw [if_pos hbt]
              split at hs
              · rename_i v σ1 he
                injection hs with hs; subst hs
                refine oper_step S h hf he ?_
                rintro val w' ⟨M1, B1, e1, h1, r1⟩
                exact run_ops S l hr h1 ((hf.ext e1).put hd r1) fun M' B' a' w'' e h' hf' hdef => hq M' B' a' w'' (e1.trans e) h' hf' (by rw [hdef]; cases o.dst <;> rfl)
              · cases hs
            · rename_i hbt
              rw [if_neg hbt]
              injection hs with hs; subst hs
              refine ⟨fun _ _ => trivial, ?_⟩
              exact run_ops S l hr h (hf.put hd undef_rel) fun M' B' a' w'' e h' hf' hdef => hq M' B' a' w'' e h' hf' (by rw [hdef]; cases o.dst <;> rfl)
          · cases hs
      · cases hr
    · cases hr

end Go.Ab
