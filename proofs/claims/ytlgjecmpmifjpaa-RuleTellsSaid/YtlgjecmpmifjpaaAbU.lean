/-
  Functions and rounds: the interpreter is sound.
-/
import Derived.Test.YtlgjecmpmifjpaaAbT
set_option linter.unusedVariables false
set_option linter.unusedSimpArgs false
namespace Go.Ab
open Go.RowKit

variable {P : Program} {M : Mem} {B : List Gh} {D : List Nat} {σ σ' : Store} {base nt : Nat} {w0 w : World}
variable {E : Env} {ops : Array Oper} {a : Act}

theorem callsIn_of_W {ro : Option Nat} {n m : Nat} {f : FuncId} {args : Array Value} {R : Ending → World → Prop} (h : CallsIn (W ro) n P f args w R) : CallsIn Fence.wide m P f args w R :=
  ⟨trivial, fun cs _ => h.2 cs (fun _ h => by simp [W, Fence.wide] at h)⟩

theorem relVT_append : ∀ {xs ys : List AV} {us vs : List Value}, RelVT M B xs us → RelVT M B ys vs → RelVT M B (xs ++ ys) (us ++ vs)
  | [], ys, us, vs, h, h' => by simp only [RelVT] at h; subst h; simpa using h'
  | x :: xs, ys, us, vs, h, h' => by
    simp only [RelVT] at h
    obtain ⟨v, r, rfl, h1, h2⟩ := h
    simp only [List.cons_append, RelVT]
    exact ⟨v, r ++ vs, rfl, h1, relVT_append h2 h'⟩
theorem relVT_len : ∀ {xs : List AV} {us : List Value}, RelVT M B xs us → xs.length = us.length
  | [], us, h => by simp only [RelVT] at h; subst h; rfl
  | x :: xs, us, h => by
    simp only [RelVT] at h
    obtain ⟨v, r, rfl, h1, h2⟩ := h
    simp [relVT_len h2]
theorem relVT_getD : ∀ {xs : List AV} {us : List Value} (t : Nat), RelVT M B xs us → RelV M B (xs.getD t (.tup [])) (us.getD t undef)
  | [], us, t, h => by simp only [RelVT] at h; subst h; simpa using undef_rel
  | x :: xs, us, 0, h => by
    simp only [RelVT] at h
    obtain ⟨v, r, rfl, h1, h2⟩ := h
    simpa using h1
  | x :: xs, us, t + 1, h => by
    simp only [RelVT] at h
    obtain ⟨v, r, rfl, h1, h2⟩ := h
    simpa using relVT_getD t h2

theorem start_frame {xs : List AV} {vs : Array Value} (h : RelVT M B xs vs.toList) (hl : xs.length ≤ nt) : FrOK M B nt (argTm xs) (vs ++ Array.replicate (nt - vs.size) undef) := by
  have hlen := relVT_len h
  simp only [Array.length_toList] at hlen
  refine ⟨by simp; omega, fun t => ?_⟩
  have h1 := relVT_getD t h
  have h2 : (vs ++ Array.replicate (nt - vs.size) undef).getD t undef = vs.toList.getD t undef := by
    simp only [Array.getD_eq_getD_getElem?, List.getD_eq_getElem?_getD, Array.getElem?_toList]
    by_cases ht : t < vs.size
    · rw [Array.getElem?_append_left ht]
    · rw [Array.getElem?_append_right (by omega), Array.getElem?_eq_none (by omega : vs.size ≤ t)]
      by_cases h3 : t - vs.size < nt - vs.size
      · simp [h3]
      · simp [h3]
  rw [h2]
  exact h1

theorem obj_block {g : Gh} {o : AObj} (h : ObjOK P M B w base g o) (hr : g.real = true) : ∃ O, w.heap[g.blk]? = some O ∧ ∀ l, O ≠ .deferred l := by
  cases o with
  | box cs => obtain ⟨_, _, ⟨vs, T, hh, _⟩, _⟩ := h; exact ⟨_, hh, by simp⟩
  | arr T es fz =>
    obtain ⟨_, _, h⟩ := h
    rcases h with ⟨_, _, _, hf⟩ | ⟨_, hA, _, _, _, ⟨xs, hown, _⟩, _⟩
    · rw [hf] at hr; cases hr
    · rcases hown.2 with ⟨hv, _⟩ | ⟨b, c, cur, hv, _, hh, _⟩
      · rw [hA] at hv; simp at hv
      · rw [hA] at hv
        injection hv with hv _ _
        injection hv with hv
        injection hv with hv _ _
        subst hv
        exact ⟨_, hh, by simp⟩
  | map kvs => obtain ⟨_, _, es, clock, hh, _⟩ := h; exact ⟨_, hh, by simp⟩
  | loop => obtain ⟨_, _, L, hh, _⟩ := h; exact ⟨_, hh, by simp⟩

theorem StOK.unmark {r : Nat} (h : StOK P M B (r :: D) σ base w0 w) : StOK P M B D σ base w0 (w.putObj r (.deferred none)) := by
  obtain ⟨hr, hb⟩ := h.marks r (by simp)
  have hother : ∀ k, k ≠ r → (w.putObj r (.deferred none)).heap[k]? = w.heap[k]? := fun k hk => World.putObj_heap_other hk
  refine ⟨h.len, fun id o g ho hg => ?_, h.dist, fun i g hg hr' => ?_, fun b o v hv => ?_, fun k hk => ?_, (List.nodup_cons.1 h.dup).2, ?_, by simpa using h.size⟩
  · have hob := h.obj id o g ho hg
    refine hob.step (MLe.refl M) (BLe.refl B) (fun hr' => hother _ fun e => ?_) (fun _ _ => rfl)
    obtain ⟨O, hO, hne⟩ := obj_block hob hr'
    rw [e, hr] at hO
    injection hO with hO
    exact hne _ hO.symm
  · have := h.lo i g hg hr'
    exact ⟨this.1, by simpa using this.2⟩
  · have hc := h.mem b o v hv
    have hne : b ≠ r := by
      rintro rfl
      simp [World.cell?, hr] at hc
    rw [World.cell?_of_block (w := w) (a := ⟨b, o, none⟩) (hother b hne)]
    exact hc
  · have := h.marks k (by simp [hk])
    have hne : k ≠ r := by
      rintro rfl
      exact (List.nodup_cons.1 h.dup).1 hk
    exact ⟨by rw [hother k hne]; exact this.1, this.2⟩
  · exact h.below.grown (grownBy_putObj w r _) h.size (fun k hk => by injection hk with hk; omega)

theorem res_ok (h : StOK P M B D σ base w0 w) {tm : Nat → AV} {tmps : Array Value} (hf : FrOK M B nt tm tmps) : ∀ {rs : List ResultVar} {vs : List AV}, resA P ⟨tm, σ⟩ rs = some vs →
    ∃ vals : List Value, (rs.mapM fun (r : ResultVar) => match r with
      | .tmp t => (pure (tmps.getD t undef) : Sem Value)
      | .cell a t => do loadVar t (← asAddr (tmps.getD a undef))).run P w = .ok vals w ∧ RelVT M B vs vals
  | [], vs, hr => by
    simp only [resA, Option.some.injEq] at hr
    subst hr
    exact ⟨[], by simp, by simp only [RelVT]⟩
  | .tmp t :: rs, vs, hr => by
    simp only [resA] at hr
    split at hr
    · rename_i us hu
      injection hr with hr; subst hr
      obtain ⟨vals, h1, h2⟩ := res_ok h hf hu
      refine ⟨tmps.getD t undef :: vals, ?_, ?_⟩
      · simp only [List.mapM_cons, Sem.run_bind, Sem.run_pure, Result.andThen_ok, h1]
      · simp only [RelVT]; exact ⟨_, _, rfl, hf.2 t, h2⟩
    · cases hr
  | .cell c T :: rs, vs, hr => by
    simp only [resA] at hr
    split at hr
    · rename_i id off hc
      split at hr
      · rename_i cs ho
        split at hr
        · rename_i v hv
          split at hr
          · rename_i us hu
            injection hr with hr; subst hr
            obtain ⟨vals, h1, h2⟩ := res_ok h hf hu
            have hp := hf.2 c
            rw [hc] at hp
            simp only [RelV] at hp
            obtain ⟨g, hg, _, hp⟩ := hp
            obtain ⟨_, _, ⟨xs, T', hh, hrel⟩, _⟩ := h.obj id _ g ho hg
            obtain ⟨val, hrun, hvr⟩ := loadA_ok h hv (b := g.blk) (off := off) (box_cells hh off) (dropV_rel off hrel)
            refine ⟨val :: vals, ?_, ?_⟩
            · have ha : ((asAddr (tmps.getD c undef)).run P w) = .ok ⟨g.blk, off, none⟩ w := by rw [hp]; simp [asAddr]
              simp only [List.mapM_cons, Sem.run_bind, ha, Result.andThen_ok, hrun, h1, Sem.run_pure]
            · simp only [RelVT]; exact ⟨_, _, rfl, hvr, h2⟩
          · cases hr
        · cases hr
      · cases hr
    · cases hr

theorem results_ok (h : StOK P M B D σ base w0 w) {tm : Nat → AV} {tmps : Array Value} (hf : FrOK M B nt tm tmps) {fn : Func} {vs : List AV} (hr : resA P ⟨tm, σ⟩ fn.results.toList = some vs) :
    ∃ val, (results fn tmps).run P w = .ok val w ∧ RelV M B (tupA vs) val := by
  obtain ⟨vals, h1, h2⟩ := res_ok h hf hr
  have hm : (fn.results.mapM fun (r : ResultVar) => match r with
      | .tmp t => (pure (tmps.getD t undef) : Sem Value)
      | .cell a t => do loadVar t (← asAddr (tmps.getD a undef))).run P w = .ok vals.toArray w := by
    rw [Array.mapM_eq_mapM_toList]
    simp only [Sem.run_map, h1, Result.andThen_ok]
  refine ⟨if h : vals.toArray.size = 1 then vals.toArray[0] else .tuple vals.toArray, ?_, ?_⟩
  · unfold results
    simp only [Sem.run_bind]
    have : ∀ {x : Sem (Array Value)} {k : Array Value → Sem Value} {u : Array Value}, x.run P w = .ok u w → (x.run P w).andThen (fun a w' => (k a).run P w') = (k u).run P w := fun h => by rw [h]; rfl
    refine (this hm).trans ?_
    simp only [Sem.run_pure]
  · have hlen := relVT_len h2
    match vs, vals, h2 with
    | [], vals, h2 =>
      simp only [RelVT] at h2; subst h2
      simp only [tupA, RelV, RelVT]
      exact ⟨#[], by simp, rfl⟩
    | [v], vals, h2 =>
      obtain ⟨u, rfl, hu⟩ := relVT_one h2
      simpa [tupA] using hu
    | v :: v' :: vs, vals, h2 =>
      have : ¬ vals.length = 1 := by simp at hlen; omega
      simp only [tupA, RelV, List.size_toArray, this, dif_neg, not_false_eq_true]
      exact ⟨_, rfl, h2⟩

theorem leaves_ok {fn : Func} {tm : Nat → AV} {tmps : Array Value} (hf : FrOK M B nt tm tmps) {vs : List AV} (hr : resA P ⟨tm, σ⟩ fn.results.toList = some vs) {R : Ending → World → Prop}
    (hR : ∀ val w', StOK P M B D σ base w0 w' → RelV M B (tupA vs) val → R (.returned val) w') : ∀ (D1 : List Nat) {w : World}, StOK P M B (D1 ++ D) σ base w0 w → LeavesInM (W none) 0 P fn tmps R (D1.map markOf) .returning w
  | [], w, h => by
    obtain ⟨val, h1, h2⟩ := results_ok h hf hr
    exact ⟨val, h1, hR val w h h2⟩
  | r :: D1, w, h => by
    refine ⟨by simp, .inl ⟨r, _, rfl, run_takeDeferred (h.marks r (by simp)).1, ?_⟩⟩
    exact leaves_ok hf hr hR D1 (StOK.unmark (by simpa using h))

theorem put_frame : ∀ {ps : List Nat} {args : List AV} {vals : List Value} {tm : Nat → AV} {tmps : Array Value}, FrOK M B nt tm tmps → RelVT M B args vals → ps.all (· < nt) = true →
    FrOK M B nt (putL tm ps args) ((ps.zip vals).foldl (fun tmps x => tmps.setIfInBounds x.1 x.2) tmps)
  | [], args, vals, tm, tmps, hf, _, _ => by simpa [putL] using hf
  | p :: ps, [], vals, tm, tmps, hf, hr, _ => by
    simp only [RelVT] at hr; subst hr
    simpa [putL] using hf
  | p :: ps, a :: args, vals, tm, tmps, hf, hr, hp => by
    simp only [RelVT] at hr
    obtain ⟨v, r, rfl, h1, h2⟩ := hr
    simp only [List.all_cons, Bool.and_eq_true, decide_eq_true_eq] at hp
    simp only [putL, List.zip_cons_cons, List.foldl_cons]
    exact put_frame (FrOK.put (a := { tmps := tmps, defers := [] }) hf (d := some p) (by simpa [dstB] using hp.1) h1) h2 (by simpa using hp.2)

theorem zip_fold {ps : Array Nat} {vals tmps : Array Value} : (ps.zip vals).foldl (fun tmps (x : Nat × Value) => tmps.setIfInBounds x.1 x.2) tmps = (ps.toList.zip vals.toList).foldl (fun tmps x => tmps.setIfInBounds x.1 x.2) tmps := by
  rw [← Array.foldl_toList, Array.toList_zip]

theorem loop_obj (h : StOK P M B D σ base w0 w) {id : Nat} {st : LoopState} {pend : Option Code} {tm : Nat → AV} {ps : List Nat} {as bd : Code} {f : FuncId} {g : Gh} (ho : σ[id]? = some (.loop st pend tm ps as bd f)) (hg : B[id]? = some g) :
    g.real = true ∧ g.len = 0 ∧ ∃ L : Loop, w.heap[g.blk]? = some (.loop L) ∧ L.state = st ∧ L.pending = pend ∧ L.params.toList = ps ∧ L.assign = as ∧ L.body = bd ∧ (∀ t, RelV M B (tm t) (L.tmps.getD t undef)) ∧ L.tmps.size = ((P.funcs[f]?).map (·.ntmps)).getD 0 :=
  h.obj id _ g ho hg

theorem loop_put (h : StOK P M B D σ base w0 w) {id : Nat} {st st' : LoopState} {pend pend' : Option Code} {tm : Nat → AV} {ps : List Nat} {as bd : Code} {f : FuncId} {g : Gh} {L : Loop} (ho : σ[id]? = some (.loop st pend tm ps as bd f)) (hg : B[id]? = some g)
    (hL : w.heap[g.blk]? = some (.loop L)) : StOK P M B D (σ.set id (.loop st' pend' tm ps as bd f)) base w0 (w.putObj g.blk (.loop { L with state := st', pending := pend' })) := by
  obtain ⟨hr, hl, L', hh, q1, q2, q4, q5, q6, q7, q8⟩ := loop_obj h ho hg
  rw [hL] at hh
  injection hh with hh
  injection hh with hh
  subst hh
  refine h.put_obj ho hg hr hL (by simp) (fun k v hm => ?_) ⟨hr, hl, _, World.putObj_heap_same (heap_lt hL), rfl, rfl, q4, q5, q6, q7, q8⟩
  have := h.mem _ _ _ hm
  simp only [World.cell?, hL] at this
  simp at this

theorem gh_same {M' : Mem} {B' : List Gh} (e : Ext base M M' B B') {id : Nat} {g : Gh} (hg : B[id]? = some g) (hr : g.real = true) (hl : g.len = 0) : B'[id]? = some g := by
  obtain ⟨g', h1, h2, h3⟩ := e.gh id g hg
  rw [(h3 hr).2 hl] at h1
  exact h1

/-- A round. -/
theorem round_ok {fn : Func} {f : FuncId} (S : Sound P E) (hm : P.follows .mixedOrders = true) (hfid : E.fid = f) (hin : E.inR = true) (hfn : P.funcs[f]? = some fn) {id : Nat} {args : List AV} {v : AV} (hr : roundA E fn.ntmps id args σ = some (v, σ'))
    (hff : ∀ st pend tm ps as bd f', σ[id]? = some (.loop st pend tm ps as bd f') → f' = f) (h : StOK P M B D σ base w0 w) {fv : Value} {avs : Array Value} (hfv : RelV M B (.yld id) fv) (hargs : RelVT M B args avs.toList) :
    CallsTo P fv avs w fun val w' => Done P M B D σ' base w0 v val w' := by
  simp only [RelV] at hfv
  obtain ⟨g, hg, ⟨hgr, hgl⟩, rfl⟩ := hfv
  unfold roundA at hr
  split at hr
  · rename_i pend tm ps as bd f' ho
    obtain rfl := hff _ _ _ _ _ _ _ ho
    split at hr
    · rename_i hps
      obtain ⟨hplen, hpall⟩ := hps
      split at hr
      · rename_i s1 hs1
        split at hr
        · rename_i pe1 tm1 ps1 as1 bd1 f1 ho1
          split at hr
          · rename_i e s2 hs2
            split at hr
            · rename_i st2 pe2 tm2 ps2 as2 bd2 f2 ho2
              obtain ⟨_, _, L, hL, q1, q2, q4, q5, q6, q7, q8⟩ := loop_obj h ho hg
              have hlen := relVT_len hargs
              simp only [Array.length_toList] at hlen
              have hsz : avs.size = L.params.size := by rw [← hlen, ← hplen, ← q4]; simp
              have hy := run_yield (P := P) (args := avs) hL hsz
              refine ⟨{ target := .fn (.yield g.blk) #[], args := #[] ++ avs }, _, by simp [Deferred.ofValue], by simp [invoke, hy]; rfl, fun f x y e => by simp at e, ?_⟩
              have F : Fit P E fn.ntmps (some g.blk) := ⟨S, hm, by rw [hfid, hfn]; rfl, fun h => by rw [hin] at h; cases h⟩
              simp only
              refine roundIn_of_W (ro := none) (m := 0) (roundIn_of_wpIn trivial ?_)
              rw [q5, q6]
              have hfr0 : FrOK M B fn.ntmps tm L.tmps := ⟨by rw [q8, hfn]; rfl, q7⟩
              have hfr := put_frame hfr0 hargs hpall
              have hzf := zip_fold (ps := L.params) (vals := avs) (tmps := L.tmps)
              rw [q4] at hzf
              rw [← hzf] at hfr
              refine code_ok (ro := some g.blk) (D1 := []) F as hs1 h (by simpa using hfr) rfl ?_
              intro M1 B1 D1 a1 w1 e1 h1 hf1 hd1 hi1
              obtain rfl := hi1 hin
              have hg1 := gh_same e1 hg hgr hgl
              obtain ⟨_, _, L1, hL1, r1, r2, r4, r5, r6, r7, r8⟩ := loop_obj h1 ho1 hg1
              refine ⟨_, run_beginRound hL1 r1, ?_⟩
              have h1' := loop_put (st' := .busy) (pend' := pe1) h1 ho1 hg1 hL1
              have hb1 : ({ L1 with state := .busy, pending := pe1 } : Loop) = { L1 with state := .busy } := by rw [← r2]
              rw [hb1] at h1'
              refine code_ok (ro := some g.blk) (D1 := []) F bd hs2 h1' hf1 hd1 ?_
              intro M2 B2 D2 a2 w2 e2 h2 hf2 hd2 hi2
              obtain rfl := hi2 hin
              have hg2 := gh_same e2 hg1 hgr hgl
              obtain ⟨_, _, L2, hL2, t1, t2, t4, t5, t6, t7, t8⟩ := loop_obj h2 ho2 hg2
              cases e with
              | normal =>
                simp only [Option.some.injEq, Prod.mk.injEq] at hr
                obtain ⟨rfl, rfl⟩ := hr
                refine ⟨_, _, run_endRound none hL2, _, rfl, M2, B2, e1.trans e2, loop_put (st' := .ready) (pend' := none) h2 ho2 hg2 hL2, ?_⟩
                exact scalar_relV rfl
              | exit i =>
                simp only [Option.some.injEq, Prod.mk.injEq] at hr
                obtain ⟨rfl, rfl⟩ := hr
                refine ⟨_, _, run_endRound (some (.exit i)) hL2, _, rfl, M2, B2, e1.trans e2, loop_put (st' := .done) (pend' := some (.exit i)) h2 ho2 hg2 hL2, ?_⟩
                exact scalar_relV rfl
              | ret =>
                simp only [Option.some.injEq, Prod.mk.injEq] at hr
                obtain ⟨rfl, rfl⟩ := hr
                refine ⟨_, _, run_endRound (some .ret) hL2, _, rfl, M2, B2, e1.trans e2, loop_put (st' := .done) (pend' := some .ret) h2 ho2 hg2 hL2, ?_⟩
                exact scalar_relV rfl
            · cases hr
          · cases hr
        · cases hr
      · cases hr
    · cases hr
  · cases hr

/-- **The interpreter is sound.** -/
theorem inv_ok {H : Hint} (hm : P.follows .mixedOrders = true) : ∀ n, InvOK P (invA P H n)
  | 0 => fun fa args σ v σ' h => by simp [invA] at h
  | n + 1 => by
    have ih := inv_ok (H := H) hm n
    intro fa args σ v σ' hr M B D base w0 w fv avs h hfv hargs
    cases fa with
    | fn f first cap =>
      simp only [invA] at hr
      split at hr
      · rename_i fn hfn
        split at hr
        · rename_i c hc
          split at hr
          · rename_i hlen
            obtain ⟨hlen, hname⟩ := hlen
            simp only [RelV] at hfv
            obtain ⟨vx, vy, rfl, hx, hy⟩ := hfv
            have hall : RelVT M B (first ++ args ++ cap) (vx ++ avs ++ vy).toList := by simpa using relVT_append (relVT_append hx hargs) hy
            refine ⟨{ target := .fn (.func f) vy, args := vx ++ avs }, .enter f (vx ++ avs ++ vy), by simp [Deferred.ofValue], ?_, fun f' x y e => ⟨_, _, rfl⟩, ?_⟩
            · have hb : fn.body.isNone = false := by rw [hc]; rfl
              have hn : (fn.name == "runtime.NumGoroutine") = false := by simpa using hname
              simp [invoke, callFunc, program, Sem.run, hfn, hname, hc]
            · unfold retA at hr
              have main : ∀ {e : Ex} {s : ASt} {vs : List AV}, (e = .normal ∨ e = .ret) → codeA ⟨P, H, f, fun g ps => match invA P H n (.fn g [] []) (ps.map .p) [] with
                  | some (v, σ) => finish σ v
                  | none => none, invA P H n, n, false⟩ fn.ntmps c ⟨argTm (first ++ args ++ cap), σ⟩ = some (e, s) → resA P s fn.results.toList = some vs → v = tupA vs → σ' = s.st →
                  CallsIn Fence.wide 0 P f (vx ++ avs ++ vy) w fun e w' => ∃ val, e = .returned val ∧ Done P M B D σ' base w0 v val w' := by
                intro e s vs he hcode hres hv hs
                subst hv; subst hs
                refine callsIn_of_W (ro := none) (n := 0) (callsIn_of_wp_marks hfn hc trivial ?_)
                have F : Fit P ⟨P, H, f, fun g ps => match invA P H n (.fn g [] []) (ps.map .p) [] with
                  | some (v, σ) => finish σ v
                  | none => none, invA P H n, n, false⟩ fn.ntmps none := ⟨⟨rfl, ih, prOK_of_inv ih⟩, hm, by rw [hfn]; rfl, fun _ => rfl⟩
                refine code_ok (ro := none) (D1 := []) (D := D) F c hcode h (start_frame hall hlen) rfl ?_
                intro M1 B1 D1 a1 w1 e1 h1 hf1 hd1 _
                have hl := leaves_ok hf1 hres (R := fun e w' => ∃ val, e = .returned val ∧ Done P M B D s.st base w0 (tupA vs) val w') (fun val w' hst hrel => ⟨val, rfl, M1, B1, e1, hst, hrel⟩) D1 h1
                rcases he with rfl | rfl
                · show LeavesInM (W none) 0 P fn a1.tmps _ a1.defers .returning w1
                  rw [hd1]; exact hl
                · show LeavesInM (W none) 0 P fn a1.tmps _ a1.defers .returning w1
                  rw [hd1]; exact hl
              split at hr
              · rename_i s hcode
                split at hr
                · rename_i vs hvs
                  simp only [Option.some.injEq, Prod.mk.injEq] at hr
                  exact main (.inl rfl) hcode hvs hr.1.symm hr.2.symm
                · cases hr
              · rename_i s hcode
                split at hr
                · rename_i vs hvs
                  simp only [Option.some.injEq, Prod.mk.injEq] at hr
                  exact main (.inr rfl) hcode hvs hr.1.symm hr.2.symm
                · cases hr
              · cases hr
          · cases hr
        · cases hr
      · cases hr
    | yld id =>
      simp only [invA] at hr
      split at hr
      · rename_i st pend tm ps as bd f ho
        split at hr
        · rename_i fn hfn
          exact round_ok (f := f) ⟨rfl, ih, prOK_of_inv ih⟩ hm rfl rfl hfn hr (fun st pend tm ps as bd f' ho' => by
            rw [ho] at ho'
            injection ho' with ho'
            injection ho' with _ _ _ _ _ _ ho'
            exact ho'.symm) h hfv hargs
        · cases hr
      · cases hr
    | _ => simp [invA] at hr

/-- **A function's answer on values.** -/
theorem pr_ok {H : Hint} (hm : P.follows .mixedOrders = true) {n : Nat} {f : FuncId} {ps : List PV} {r : AV} (hr : prA P H n f ps = some r) {M : Mem} {avs : Array Value} (hmem : ∀ b o v, M b o = some v → w.cell? ⟨b, o, none⟩ = some v)
    (hargs : ∀ B, RelVT M B (ps.map .p) avs.toList) : CallsTo P (.func (.func f) #[] #[]) avs w fun val w' => ∃ M', MLe M M' ∧ (∀ b o, b < w.heap.size → M' b o = M b o) ∧ (∀ b o v, M' b o = some v → w'.cell? ⟨b, o, none⟩ = some v) ∧ Below w.heap.size w w' ∧ ∀ B, RelV M' B r val :=
  prOK_of_inv (inv_ok hm n) f ps r hr M w avs hmem hargs

#print axioms pr_ok
end Go.Ab
