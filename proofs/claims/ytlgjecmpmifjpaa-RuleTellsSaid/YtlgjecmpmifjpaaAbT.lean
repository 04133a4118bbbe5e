/-
  Code: regions, branches, loops, ranges over functions.
-/
import Derived.Test.YtlgjecmpmifjpaaAbS
set_option linter.unusedVariables false
set_option linter.unusedSimpArgs false
namespace Go.Ab
open Go.RowKit

variable {P : Program} {M : Mem} {B : List Gh} {D : List Nat} {σ σ' : Store} {base nt : Nat} {w0 w : World}
variable {E : Env} {ops : Array Oper} {a : Act}

def exOf : Ex → Exit
  | .normal => .normal
  | .exit i => .exit i
  | .ret => .ret

def markOf (r : Nat) : Deferred := { target := .collected r, args := #[] }

/-! ### Memory that is let go -/
mutual
theorem below_rel (n : Nat) : ∀ (v : AV) (x : Value), below n v = true → RelV M B v x → RelV M (B.take n) v x
  | .bot, x, _, _ => by simp only [RelV]
  | .p y, x, _, h => by simpa only [RelV] using h
  | .agg cs, x, hb, h => by
    simp only [below] at hb
    simp only [RelV] at h ⊢
    obtain ⟨vs, rfl, h⟩ := h
    exact ⟨vs, rfl, belows_relC n cs _ hb h⟩
  | .tup cs, x, hb, h => by
    simp only [below] at hb
    simp only [RelV] at h ⊢
    obtain ⟨vs, rfl, h⟩ := h
    exact ⟨vs, rfl, belows_relT n cs _ hb h⟩
  | .ro cs, x, _, h => by simpa only [RelV] using h
  | .ptr id off, x, hb, h => by
    simp only [below, decide_eq_true_eq] at hb
    simp only [RelV] at h ⊢
    obtain ⟨g, hg, r⟩ := h
    exact ⟨g, by rw [List.getElem?_take_of_lt hb]; exact hg, r⟩
  | .own id k, x, hb, h => by
    simp only [below, decide_eq_true_eq] at hb
    simp only [RelV] at h ⊢
    obtain ⟨g, hg, r⟩ := h
    exact ⟨g, by rw [List.getElem?_take_of_lt hb]; exact hg, r⟩
  | .optr id k i off, x, hb, h => by
    simp only [below, decide_eq_true_eq] at hb
    simp only [RelV] at h ⊢
    obtain ⟨g, hg, r⟩ := h
    exact ⟨g, by rw [List.getElem?_take_of_lt hb]; exact hg, r⟩
  | .map id, x, hb, h => by
    simp only [below, decide_eq_true_eq] at hb
    simp only [RelV] at h ⊢
    obtain ⟨g, hg, r⟩ := h
    exact ⟨g, by rw [List.getElem?_take_of_lt hb]; exact hg, r⟩
  | .fn f xs ys, x, hb, h => by
    simp only [below, Bool.and_eq_true] at hb
    simp only [RelV] at h ⊢
    obtain ⟨vx, vy, rfl, h1, h2⟩ := h
    exact ⟨vx, vy, rfl, belows_relT n xs _ hb.1 h1, belows_relT n ys _ hb.2 h2⟩
  | .yld id, x, hb, h => by
    simp only [below, decide_eq_true_eq] at hb
    simp only [RelV] at h ⊢
    obtain ⟨g, hg, r⟩ := h
    exact ⟨g, by rw [List.getElem?_take_of_lt hb]; exact hg, r⟩
  | .e0, x, _, h => by simpa only [RelV] using h
theorem belows_relC (n : Nat) : ∀ (cs : List AV) (vs : List Value), belows n cs = true → RelVC M B cs vs → RelVC M (B.take n) cs vs
  | [], vs, _, h => by simpa only [RelVC] using h
  | c :: cs, vs, hb, h => by
    simp only [belows, Bool.and_eq_true] at hb
    simp only [RelVC] at h ⊢
    obtain ⟨v, r, rfl, h1, h2, h3, h4⟩ := h
    exact ⟨v, r, rfl, h1, h2, below_rel n c v hb.1 h3, belows_relC n cs r hb.2 h4⟩
theorem belows_relT (n : Nat) : ∀ (cs : List AV) (vs : List Value), belows n cs = true → RelVT M B cs vs → RelVT M (B.take n) cs vs
  | [], vs, _, h => by simpa only [RelVT] using h
  | c :: cs, vs, hb, h => by
    simp only [belows, Bool.and_eq_true] at hb
    simp only [RelVT] at h ⊢
    obtain ⟨v, r, rfl, h1, h2⟩ := h
    exact ⟨v, r, rfl, below_rel n c v hb.1 h1, belows_relT n cs r hb.2 h2⟩
end

theorem ext_take {M' : Mem} {B' : List Gh} (e : Ext base M M' B B') : Ext base M M' B (B'.take B.length) := by
  refine ⟨e.mem, fun id g hg => ?_, e.old⟩
  obtain ⟨g', h1, h2⟩ := e.gh id g hg
  exact ⟨g', by rw [List.getElem?_take_of_lt (List.getElem?_eq_some_iff.1 hg).1]; exact h1, h2⟩

theorem take_get {α : Type} {l : List α} {n i : Nat} {x : α} (h : (l.take n)[i]? = some x) : i < n ∧ l[i]? = some x := by
  have hi := (List.getElem?_eq_some_iff.1 h).1
  simp only [List.length_take] at hi
  rw [List.getElem?_take_of_lt (by omega)] at h
  exact ⟨by omega, h⟩

theorem gc_ok (n : Nat) {s : ASt} (h : StOK P M B D s.st base w0 w) (hf : FrOK M B nt s.tm a.tmps) : ∃ B', (B' = B ∨ B' = B.take n) ∧ StOK P M B' D (gcA n s).st base w0 w ∧ FrOK M B' nt (gcA n s).tm a.tmps := by
  unfold gcA
  split
  · rename_i hall
    refine ⟨B.take n, .inr rfl, ⟨by simp [h.len], ?_, ?_, ?_, h.mem, h.marks, h.dup, h.below, h.size⟩, hf.1, fun t => ?_⟩
    · intro id o g ho hg
      obtain ⟨hlt, ho'⟩ := take_get ho
      obtain ⟨_, hg⟩ := take_get hg
      have hb : belowO n o = true := List.all_eq_true.1 hall o (List.mem_of_getElem? ho)
      have hob := h.obj id o g ho' hg
      cases o with
      | box cs =>
        obtain ⟨hr, hl, ⟨vs, T, hh, hc⟩, hn⟩ := hob
        exact ⟨hr, hl, ⟨vs, T, hh, belows_relC n _ _ hb hc⟩, hn⟩
      | arr T es fz => exact hob
      | map kvs => exact hob
      | loop => simp [belowO] at hb
    · intro i j gi gj hi hj
      exact h.dist i j gi gj (take_get hi).2 (take_get hj).2
    · intro i g hg
      exact h.lo i g (take_get hg).2
    · show RelV M (B.take n) (cleanA n (s.tm t)) _
      unfold cleanA
      split
      · rename_i hb
        exact below_rel n _ _ hb (hf.2 t)
      · simp only [RelV]
  · exact ⟨B, .inl rfl, h, hf⟩

/-! ### A range over a function -/
theorem StOK.mark (h : StOK P M B D σ base w0 w) : StOK P M B (w.heap.size :: D) σ base w0 (w.alloc (.deferred (some []))) := by
  obtain ⟨_, h2⟩ := h.frozen (.deferred (some [])) M (fun _ _ _ => rfl) (fun o v hv => by rw [h.mem_new o] at hv; cases hv)
  refine ⟨h2.len, h2.obj, h2.dist, h2.lo, h2.mem, fun r hr => ?_, ?_, h2.below, h2.size⟩
  · rcases List.mem_cons.1 hr with rfl | hr
    · exact ⟨heap_new w _, h.size⟩
    · exact h2.marks r hr
  · refine List.nodup_cons.2 ⟨fun hm => ?_, h.dup⟩
    have := heap_lt (h.marks _ hm).1
    omega

structure Fit (P : Program) (E : Env) (nt : Nat) (ro : Option Nat) : Prop where
  sound : Sound P E
  mixed : P.follows .mixedOrders = true
  nt : (P.funcs[E.fid]?).map (·.ntmps) = some nt
  rnd : E.inR = false → ro = none

/-- What is owed behind a piece of code. -/
def After (P : Program) (E : Env) (nt : Nat) (M : Mem) (B : List Gh) (D D1 : List Nat) (base : Nat) (w0 : World) (e : Ex) (s' : ASt) (Q : Exit → Act → World → Prop) : Prop :=
  ∀ M' B' D1' a' w', Ext base M M' B B' → StOK P M' B' (D1' ++ D) s'.st base w0 w' → FrOK M' B' nt s'.tm a'.tmps → a'.defers = D1'.map markOf → (E.inR = true → D1' = D1) → Q (exOf e) a' w'

theorem After.step {M1 : Mem} {B1 : List Gh} {D1 D2 : List Nat} {e : Ex} {s' : ASt} {Q : Exit → Act → World → Prop} (h : After P E nt M B D D1 base w0 e s' Q) (e1 : Ext base M M1 B B1) (hd : E.inR = true → D2 = D1) : After P E nt M1 B1 D D2 base w0 e s' Q :=
  fun M' B' D1' a' w' e2 h2 hf hdef hr => h M' B' D1' a' w' (e1.trans e2) h2 hf hdef (fun hi => (hr hi).trans (hd hi))

theorem range_ok {ro : Option Nat} (F : Fit P E nt ro) {Q : Exit → Act → World → Prop} {s s' : ASt} {e : Ex} {D1 : List Nat} {g : Operand} {fv : AV} {ps : Array Nat} {assign body : Code} (hfv : evA s.tm g = some fv)
    (hr : rangeA E fv ps assign body s = some (e, s')) (h : StOK P M B (D1 ++ D) s.st base w0 w) (hf : FrOK M B nt s.tm a.tmps) (hdef : a.defers = D1.map markOf)
    (hq : After P E nt M B D D1 base w0 e s' Q) : (Code.rangeFunc g ps assign body).wpIn (W ro) 0 P Q a w := by
  unfold rangeA at hr
  split at hr
  · cases hr
  · rename_i hin
    simp only [Bool.or_eq_true, Bool.not_eq_true', not_or, Bool.not_eq_false, Bool.not_eq_true] at hin
    obtain ⟨hin, hfn⟩ := hin
    have hro := F.rnd hin
    subst hro
    split at hr
    · rename_i v σ2 hi
      split at hr
      · rename_i st pend tm2 ps2 as2 bd2 f2 ho2
        have hg := evA_ok hf hfv
        refine wpIn_rangeFunc fun fn _ => ?_
        have h1 := h.mark
        let L : Loop := { state := .ready, pending := none, fn := fn, tmps := a.tmps, params := ps, assign := assign, body := body, defers := w.heap.size }
        let gl : Gh := ⟨w.heap.size + 1, 0, none, 0, 0, true⟩
        have hsz1 : (w.alloc (.deferred (some []))).heap.size = w.heap.size + 1 := by simp
        obtain ⟨e2, h2⟩ := h1.push (.loop L) gl (.loop .ready none s.tm ps.toList assign body E.fid) rfl (by rw [hsz1]) ⟨rfl, rfl, L, by
          have := heap_new (w.alloc (.deferred (some []))) (.loop L)
          rw [hsz1] at this
          exact this, rfl, rfl, rfl, rfl, rfl, fun t => RelV.mono (MLe.refl M) (BLe.append B [gl]) _ _ (hf.2 t), by rw [F.nt]; exact hf.1⟩
        cases fv <;> simp only [isFn, Bool.false_eq_true] at hfn
        rename_i f xs ys
        have hyl : RelVT M (B ++ [gl]) [.yld s.st.length] #[Value.func (.yield (w.heap.size + 1)) #[] #[]].toList := by
          simp only [RelVT, RelV]
          exact ⟨_, [], rfl, ⟨gl, by rw [← h.len]; simp, ⟨rfl, rfl⟩, rfl⟩, rfl⟩
        obtain ⟨d, nx, k1, k2, k3, k4⟩ := F.sound.inv _ _ _ _ _ hi M (B ++ [gl]) (w.heap.size :: (D1 ++ D)) base w0 _ (a.eval g) #[.func (.yield (w.heap.size + 1)) #[] #[]] h2 (RelV.ext e2 hg) hyl
        have hg' := hg
        simp only [RelV] at hg'
        obtain ⟨vx, vy, hgv, _, _⟩ := hg'
        obtain ⟨fx, as, rfl⟩ := k3 f vx vy hgv
        refine ⟨w.heap.size + 1, [markOf w.heap.size], _, d, _, fx, as, _, run_enterLoop_outer fn a.tmps ps assign body, ?_, fun _ _ => trivial, k2, fun h => by simp [W, Fence.wide] at h, callsIn_W (k4.mono ?_)⟩
        · have : (rangeCall g (w.heap.size + 1)).args.map a.eval = #[Value.func (.yield (w.heap.size + 1)) #[] #[]] := by simp [rangeCall, Act.eval]
          show Sem.run P (Deferred.ofValue (a.eval g) ((rangeCall g (w.heap.size + 1)).args.map a.eval)) _ = _
          rw [this]
          exact k1
        · rintro ev w3 ⟨val, rfl, M3, B3, e3, h3, _⟩
          have hid : s.st.length < (B ++ [gl]).length := by rw [← h.len]; simp
          obtain ⟨g3, hg3, hl3, hk3⟩ := e3.gh s.st.length gl (by rw [← h.len]; simp)
          have := (hk3 rfl).2 rfl
          subst this
          obtain ⟨hr3, hlen3, L3, hh3, q1, q2, q4, q5, q6, q7, q8⟩ := h3.obj _ _ _ ho2 hg3
          have hnb : L3.state ≠ .busy := by
            rw [q1]
            intro hb
            subst hb
            simp at hr
          have hend := run_endLoop (P := P) hh3 hnb
          have h4 := h3.put_obj (o' := .loop .exhausted pend tm2 ps2 as2 bd2 f2) (O' := .loop { L3 with state := .exhausted }) ho2 hg3 hr3 hh3 (by simp) (fun k v hm => by
            have := h3.mem _ _ _ hm
            simp only [World.cell?, hh3] at this
            simp at this) ⟨hr3, hlen3, _, World.putObj_heap_same (heap_lt hh3), rfl, q2, q4, q5, q6, q7, q8⟩
          have hx : jumpA pend = some e ∧ s' = ⟨s.tm, σ2.set s.st.length (.loop .exhausted pend tm2 ps2 as2 bd2 f2)⟩ := by
            cases hj : jumpA pend with
            | none => rw [hj] at hr; cases st <;> simp at hr
            | some e' =>
              rw [hj] at hr
              cases st <;> simp only [Option.some.injEq, Prod.mk.injEq, reduceCtorEq] at hr <;> (obtain ⟨rfl, rfl⟩ := hr; exact ⟨rfl, rfl⟩)
          obtain ⟨hj, rfl⟩ := hx
          have hfin := hq M3 B3 (w.heap.size :: D1) { a with defers := [markOf w.heap.size] ++ a.defers } _ (e2.trans e3) h4 ((hf.ext e2).ext e3) (by simp [hdef]) (fun hi => by rw [hin] at hi; cases hi)
          refine ⟨L3.pending, _, hend, ?_⟩
          generalize World.putObj w3 _ _ = w4 at hfin ⊢
          rw [q2]
          unfold jumpA at hj
          split at hj
          · injection hj with hj; subst hj
            exact hfin
          · injection hj with hj; subst hj
            exact wpIn_ret hfin
          · injection hj with hj; subst hj
            exact wpIn_exit hfin
          · cases hj
      · cases hr
    · cases hr

/-! ### Code -/
theorem loop_ok {ro : Option Nat} (F : Fit P E nt ro) {Q : Exit → Act → World → Prop} {c : Code} {gc : Bool} {e : Ex} {s' : ASt}
    (hc : ∀ {Q : Exit → Act → World → Prop} {e : Ex} {s s' : ASt} {M : Mem} {B : List Gh} {D1 : List Nat} {a : Act} {w : World}, codeA E nt c s = some (e, s') → StOK P M B (D1 ++ D) s.st base w0 w → FrOK M B nt s.tm a.tmps → a.defers = D1.map markOf →
      After P E nt M B D D1 base w0 e s' Q → c.wpIn (W ro) 0 P Q a w) :
    ∀ (k : Nat) {s : ASt} {M : Mem} {B : List Gh} {D1 : List Nat} {a : Act} {w : World}, loopA gc (codeA E nt c) k s = some (e, s') → StOK P M B (D1 ++ D) s.st base w0 w → FrOK M B nt s.tm a.tmps → a.defers = D1.map markOf →
      After P E nt M B D D1 base w0 e s' Q → Code.roundsIn (W ro) 0 P c Q k a w
  | 0, s, M, B, D1, a, w, hr, _, _, _, _ => by simp [loopA] at hr
  | k + 1, s, M, B, D1, a, w, hr, h, hf, hdef, hq => by
    rw [roundsIn_succ]
    simp only [loopA] at hr
    split at hr
    · rename_i s1 hs
      refine hc hs h hf hdef ?_
      intro M1 B1 D2 a1 w1 e1 h1 hf1 hd1 hi1
      show Code.roundsIn (W ro) 0 P c Q k a1 w1
      cases gc with
      | false => exact loop_ok F hc k hr h1 hf1 hd1 (hq.step e1 hi1)
      | true =>
        obtain ⟨B2, hB2, h2, hf2⟩ := gc_ok s.st.length h1 hf1
        have e2 : Ext base M M1 B B2 := by
          rcases hB2 with rfl | rfl
          · exact e1
          · rw [← h.len]; exact ext_take e1
        exact loop_ok F hc k hr h2 hf2 hd1 (hq.step e2 hi1)
    · rename_i hne
      refine hc hr h hf hdef ?_
      intro M1 B1 D2 a1 w1 e1 h1 hf1 hd1 hi1
      have := hq M1 B1 D2 a1 w1 e1 h1 hf1 hd1 hi1
      cases e with
      | normal => exact absurd hr (fun h => hne s' h)
      | exit i => exact this
      | ret => exact this

theorem code_ok {ro : Option Nat} (F : Fit P E nt ro) : ∀ (c : Code) {Q : Exit → Act → World → Prop} {e : Ex} {s s' : ASt} {M : Mem} {B : List Gh} {D1 : List Nat} {a : Act} {w : World}, codeA E nt c s = some (e, s') →
    StOK P M B (D1 ++ D) s.st base w0 w → FrOK M B nt s.tm a.tmps → a.defers = D1.map markOf → After P E nt M B D D1 base w0 e s' Q → c.wpIn (W ro) 0 P Q a w
  | .skip, Q, e, s, s', M, B, D1, a, w, hr, h, hf, hdef, hq => by
    simp only [codeA, Option.some.injEq, Prod.mk.injEq] at hr
    obtain ⟨rfl, rfl⟩ := hr
    exact wpIn_skip (hq M B D1 a w (Ext.refl _ _ _) h hf hdef (fun _ => rfl))
  | .label l, Q, e, s, s', M, B, D1, a, w, hr, h, hf, hdef, hq => by
    simp only [codeA, Option.some.injEq, Prod.mk.injEq] at hr
    obtain ⟨rfl, rfl⟩ := hr
    exact wpIn_label (hq M B D1 a w (Ext.refl _ _ _) h hf hdef (fun _ => rfl))
  | .region id ops false, Q, e, s, s', M, B, D1, a, w, hr, h, hf, hdef, hq => by
    simp only [codeA] at hr
    split at hr
    · rename_i s1 hs
      simp only [Option.some.injEq, Prod.mk.injEq] at hr
      obtain ⟨rfl, rfl⟩ := hr
      exact wpIn_region (run_ops F.sound _ hs h hf fun M' B' a' w' e1 h1 hf1 hd => hq M' B' D1 a' w' e1 h1 hf1 (hd.trans hdef) (fun _ => rfl))
    · cases hr
  | .region id ops true, Q, e, s, s', M, B, D1, a, w, hr, h, hf, hdef, hq => by
    simp only [codeA] at hr
    split at hr
    · rename_i s1 hs
      simp only [Option.some.injEq, Prod.mk.injEq] at hr
      obtain ⟨rfl, rfl⟩ := hr
      exact draw_ok F.sound F.mixed hs h hf fun M' B' a' w' e1 h1 hf1 hd => hq M' B' D1 a' w' e1 h1 hf1 (hd.trans hdef) (fun _ => rfl)
    · cases hr
  | .seq x y, Q, e, s, s', M, B, D1, a, w, hr, h, hf, hdef, hq => by
    simp only [codeA] at hr
    refine wpIn_seq ?_
    split at hr
    · rename_i s1 hs
      refine code_ok F x hs h hf hdef ?_
      intro M1 B1 D2 a1 w1 e1 h1 hf1 hd1 hi1
      exact code_ok F y hr h1 hf1 hd1 (hq.step e1 hi1)
    · rename_i hne
      refine code_ok F x hr h hf hdef ?_
      intro M1 B1 D2 a1 w1 e1 h1 hf1 hd1 hi1
      have := hq M1 B1 D2 a1 w1 e1 h1 hf1 hd1 hi1
      cases e with
      | normal => exact absurd hr (fun h => hne s' h)
      | exit i => exact this
      | ret => exact this
  | .cond c x y, Q, e, s, s', M, B, D1, a, w, hr, h, hf, hdef, hq => by
    simp only [codeA] at hr
    split at hr
    · rename_i t hc
      obtain ⟨ht, _⟩ := relV_val (evA_ok hf hc)
      refine wpIn_cond ht ?_
      cases t with
      | true => exact code_ok F x hr h hf hdef hq
      | false => exact code_ok F y hr h hf hdef hq
    · cases hr
  | .block id c, Q, e, s, s', M, B, D1, a, w, hr, h, hf, hdef, hq => by
    simp only [codeA] at hr
    refine wpIn_block ?_
    split at hr
    · rename_i i s1 hs
      refine code_ok F c hs h hf hdef ?_
      intro M1 B1 D2 a1 w1 e1 h1 hf1 hd1 hi1
      show Exit.inBlock id Q (.exit i) a1 w1
      unfold Exit.inBlock
      simp only
      split at hr
      · rename_i hid
        simp only [Option.some.injEq, Prod.mk.injEq] at hr
        obtain ⟨rfl, rfl⟩ := hr
        rw [if_pos hid]
        exact hq M1 B1 D2 a1 w1 e1 h1 hf1 hd1 hi1
      · rename_i hid
        simp only [Option.some.injEq, Prod.mk.injEq] at hr
        obtain ⟨rfl, rfl⟩ := hr
        rw [if_neg hid]
        exact hq M1 B1 D2 a1 w1 e1 h1 hf1 hd1 hi1
    · rename_i hne
      refine code_ok F c hr h hf hdef ?_
      intro M1 B1 D2 a1 w1 e1 h1 hf1 hd1 hi1
      have := hq M1 B1 D2 a1 w1 e1 h1 hf1 hd1 hi1
      cases e with
      | normal => exact this
      | exit i => exact absurd hr (fun h => hne i s' h)
      | ret => exact this
  | .loop c, Q, e, s, s', M, B, D1, a, w, hr, h, hf, hdef, hq => by
    simp only [codeA] at hr
    exact wpIn_loop_rounds E.K (loop_ok F (fun {Q e s s' M B D1 a w} hr h hf hdef hq => code_ok F c hr h hf hdef hq) E.K hr h hf hdef hq)
  | .rangeFunc f ps assign body, Q, e, s, s', M, B, D1, a, w, hr, h, hf, hdef, hq => by
    simp only [codeA] at hr
    split at hr
    · rename_i fv hfv
      exact range_ok F hfv hr h hf hdef hq
    · cases hr
  | .exit id, Q, e, s, s', M, B, D1, a, w, hr, h, hf, hdef, hq => by
    simp only [codeA, Option.some.injEq, Prod.mk.injEq] at hr
    obtain ⟨rfl, rfl⟩ := hr
    exact wpIn_exit (hq M B D1 a w (Ext.refl _ _ _) h hf hdef (fun _ => rfl))
  | .ret, Q, e, s, s', M, B, D1, a, w, hr, h, hf, hdef, hq => by
    simp only [codeA, Option.some.injEq, Prod.mk.injEq] at hr
    obtain ⟨rfl, rfl⟩ := hr
    exact wpIn_ret (hq M B D1 a w (Ext.refl _ _ _) h hf hdef (fun _ => rfl))
  | .scope c, Q, e, s, s', M, B, D1, a, w, hr, h, hf, hdef, hq => by simp [codeA] at hr
  | .goto l, Q, e, s, s', M, B, D1, a, w, hr, h, hf, hdef, hq => by simp [codeA] at hr
  | .refuse y, Q, e, s, s', M, B, D1, a, w, hr, h, hf, hdef, hq => by simp [codeA] at hr

end Go.Ab
