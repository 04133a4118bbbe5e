/-
  What the abstract operations do the model's operations do: every operation that is no call of a function.
-/
import Derived.Test.YtlgjecmpmifjpaaAbN
set_option linter.unusedVariables false
set_option linter.unusedSimpArgs false
namespace Go.Ab
open Go.RowKit

variable {P : Program} {M : Mem} {B : List Gh} {D : List Nat} {σ σ' : Store} {base nt : Nat} {w0 w : World}
variable {E : Env} {tm : Nat → AV} {a : Act} {o : Oper} {v : AV}

theorem ptr_shift {id off k : Nat} {x : Value} (h : RelV M B (.ptr id off) x) : ∃ b, x = .pointer (some ⟨b, off, none⟩) ∧ RelV M B (.ptr id (off + k)) (.pointer (some ⟨b, off + k, none⟩)) := by
  simp only [RelV] at h
  obtain ⟨g, hg, hr, rfl⟩ := h
  refine ⟨g.blk, rfl, ?_⟩
  simp only [RelV]
  exact ⟨g, hg, hr, rfl⟩

theorem field_ok (h : StOK P M B D σ base w0 w) {T : TypeId} {x : Value} {xa : AV} {f k : Nat} (hk : fldT P T f = some k) (hx : RelV M B xa x) {r : AV}
    (hr : (match xa with
      | .ptr id off => some (.ptr id (off + k))
      | .ro cs => some (.ro (cs.drop k))
      | .optr id n i off => some (.optr id n i (off + k))
      | _ => none : Option AV) = some r) : ∃ val, (Instr.fieldAt T x f).run P w = .ok val w ∧ RelV M B r val := by
  cases xa with
  | ptr id off =>
    injection hr with hr; subst hr
    obtain ⟨b, rfl, h2⟩ := ptr_shift (k := k) hx
    exact ⟨_, fldT_ok hk _ w, by rw [add0]; exact h2⟩
  | ro cs =>
    injection hr with hr; subst hr
    simp only [RelV] at hx
    obtain ⟨b, off, vs, rfl, hm, hrel⟩ := hx
    refine ⟨_, fldT_ok hk _ w, ?_⟩
    rw [add0]
    simp only [RelV]
    exact ⟨b, off + k, vs.drop k, rfl, fun j hj => by
      simp only [List.length_drop] at hj
      rw [List.getElem?_drop, ← hm (k + j) (by omega)]
      congr 1; omega, drop_rel k hrel⟩
  | optr id n i off =>
    injection hr with hr; subst hr
    simp only [RelV] at hx
    obtain ⟨g, hg, hle, A, rfl, hh⟩ := hx
    refine ⟨_, fldT_ok hk _ w, ?_⟩
    simp only [RelV]
    refine ⟨g, hg, hle, _, rfl, fun e => ?_⟩
    rw [hh e, add0, Nat.add_assoc]
  | _ => cases hr

theorem index_ok (h : StOK P M B D σ base w0 w) {T : TypeId} {xa ia : AV} {x i : Value} (hx : RelV M B xa x) (hi : RelV M B ia i) (he : (indexEff P T xa ia).run σ = some (v, σ')) :
    ∃ val, (Instr.indexAt T x i).run P w = .ok val w ∧ Done P M B D σ' base w0 v val w := by
  unfold indexEff at he
  split at he
  · rename_i e es n hT hn
    obtain ⟨k, rfl⟩ := idxOf_ok hn hi
    obtain ⟨h1, rfl⟩ := eff_pure he
    split at h1
    · rename_i h0
      split at h1
      · rename_i z hz
        split at h1
        · rename_i hs
          injection h1 with h1; subst h1
          obtain ⟨val, h1, h2⟩ := index_list h (elemT_ok hT) hx rfl h0 hz hs.1 hs.2
          exact ⟨val, h1, Done.same h h2⟩
        · cases h1
      · cases h1
    · cases h1
  · rename_i e id m n hT hn
    obtain ⟨k, rfl⟩ := idxOf_ok hn hi
    obtain ⟨ob, ho, hr, rfl⟩ := eff_read he
    split at hr
    · rename_i T' es fz
      split at hr
      · rename_i hc
        obtain ⟨hm, h0, hlt, rfl⟩ := hc
        injection hr with hr; subst hr
        obtain ⟨val, h1, h2⟩ := index_own h (elemT_ok hT) ho hx rfl hm h0 hlt
        exact ⟨val, h1, Done.same h h2⟩
      · cases hr
    · cases hr
  · exact (eff_none he).elim

theorem load_ok (h : StOK P M B D σ base w0 w) (hf : FrOK M B nt tm a.tmps) {T : TypeId} {x : Operand}
    (he : (match evA tm x with
    | some (.ptr id off) => Eff.read id fun
      | .box cs => loadA P T (cs.drop off)
      | _ => none
    | some (.ro cs) => .pure (loadP P T cs)
    | some (.optr id n i off) => .read id fun
      | .arr _ es _ => if n = es.length then match es[i]? with
          | some e => loadP P T (e.cells.drop off)
          | none => none
        else none
      | _ => none
    | _ => .pure none).run σ = some (v, σ')) : ∃ val, (Instr.loadAt T (a.eval x)).run P w = .ok val w ∧ Done P M B D σ' base w0 v val w := by
  split at he
  · rename_i id off hx
    obtain ⟨ob, ho, hr, rfl⟩ := eff_read he
    split at hr
    · obtain ⟨val, h1, h2⟩ := load_box h ho (evA_ok hf hx) hr
      exact ⟨val, h1, Done.same h h2⟩
    · cases hr
  · rename_i cs hx
    obtain ⟨hr, rfl⟩ := eff_pure he
    obtain ⟨val, h1, h2⟩ := load_ro h (evA_ok hf hx) hr
    exact ⟨val, h1, Done.same h h2⟩
  · rename_i id n i off hx
    obtain ⟨ob, ho, hr, rfl⟩ := eff_read he
    split at hr
    · split at hr
      · rename_i hn
        split at hr
        · rename_i e hz
          obtain ⟨val, h1, h2⟩ := load_own h ho hn hz (evA_ok hf hx) hr
          exact ⟨val, h1, Done.same h h2⟩
        · cases hr
      · cases hr
    · cases hr
  · exact (eff_none he).elim

theorem store_ok (h : StOK P M B D σ base w0 w) (hf : FrOK M B nt tm a.tmps) {T : TypeId} {x y : Operand}
    (he : (match evA tm x, evA tm y with
    | some (.ptr id off), some v => Eff.write id fun
      | .box cs => if v.solid ∧ 0 < szT P T ∧ v.cells.length = szT P T ∧ off + szT P T ≤ cs.length then some (.tup [], .box (over cs off v.cells)) else none
      | _ => none
    | some (.optr id n i off), some v => match wordOf v with
      | some x => .write id fun
        | .arr T' es fz => match es[i]? with
          | some e => if n = es.length ∧ fz ≤ i ∧ 0 < szT P T ∧ x.cells.length = szT P T ∧ off + szT P T ≤ e.cells.length then some (.tup [], .arr T' (es.set i (setCells e (over e.cells off x.cells))) fz) else none
          | none => none
        | _ => none
      | none => .pure none
    | _, _ => .pure none).run σ = some (v, σ')) : ∃ w', (Instr.storeAt T (a.eval x) (a.eval y)).run P w = .ok () w' ∧ Done P M B D σ' base w0 v undef w' := by
  split at he
  · rename_i id off u hx hy
    obtain ⟨ob, ob', ho, hr, rfl⟩ := eff_write he
    split at hr
    · split at hr
      · rename_i hc
        obtain ⟨h1, h2, h3, h4⟩ := hc
        simp only [Option.some.injEq, Prod.mk.injEq] at hr
        obtain ⟨rfl, rfl⟩ := hr
        exact store_box h ho (evA_ok hf hx) (evA_ok hf hy) h1 h2 h3 h4
      · cases hr
    · cases hr
  · rename_i id n i off u hx hy
    split at he
    · rename_i z hz
      obtain ⟨ob, ob', ho, hr, rfl⟩ := eff_write he
      split at hr
      · split at hr
        · rename_i e hez
          split at hr
          · rename_i hc
            obtain ⟨h1, h2, h3, h4, h5⟩ := hc
            simp only [Option.some.injEq, Prod.mk.injEq] at hr
            obtain ⟨rfl, rfl⟩ := hr
            exact store_own h ho (evA_ok hf hx) (wordOf_ok hz (evA_ok hf hy)) h1 hez h2 h3 h4 h5
          · cases hr
        · cases hr
      · cases hr
    · exact (eff_none he).elim
  · exact (eff_none he).elim

theorem relI_size {ps : List (Nat × AV)} {vs : List (Nat × Value)} (h : RelI M B ps vs) : True := trivial

theorem slice_ok (h : StOK P M B D σ base w0 w) (hf : FrOK M B nt tm a.tmps) {T : TypeId} {len : Nat} {parts : Array (Nat × Operand)} {own : Bool}
    (he : (match elemT P T, partsA (evA tm) parts.toList with
    | some e, some ps => match elemsA (szT P e) 0 ps with
      | some es => if es.length = len ∧ len * szT P e ≤ 2 ^ 24 ∧ 0 < szT P e ∧ (zeroT P e).isSome then (if own then (if len = 0 then Eff.pure none else .new [.arr e es 0] (fun b => .own b es.length)) else .pure (some (.p (.list es)))) else .pure none
      | none => .pure none
    | _, _ => .pure none).run σ = some (v, σ')) :
    ∃ val w', (Instr.buildSlice T len (parts.map fun x => (x.1, a.eval x.2))).run P w = .ok val w' ∧ Done P M B D σ' base w0 v val w' := by
  split at he
  · rename_i e ps hT hp
    split at he
    · rename_i es hes
      split at he
      · rename_i hc
        obtain ⟨hl, h24, h0, hz⟩ := hc
        obtain ⟨z, hz⟩ := Option.isSome_iff_exists.1 hz
        have hr := partsA_ok hf hp
        obtain ⟨news, hrun, hnl, hrel⟩ := buildSlice_run (vs := parts.map fun x => (x.1, a.eval x.2)) (elemT_ok hT) hes (by simpa using hr) hl h24 h0 hz w
        subst hl
        split at he
        · split at he
          · exact (eff_none he).elim
          · rename_i hne
            obtain ⟨rfl, rfl⟩ := eff_new he
            exact ⟨_, _, hrun, new_arr h (fun e => hne (by simp [e])) h0 hnl hrel (by simp [hnl]) (by simp [← hnl]) (Nat.le_refl _) (by
              have : es.length * 1 ≤ es.length * szT P e := Nat.mul_le_mul_left _ h0
              simp only [maxLen]; omega)⟩
        · obtain ⟨h1, rfl⟩ := eff_pure he
          injection h1 with h1; subst h1
          exact ⟨_, _, hrun, new_list h h0 hnl hrel (by simp [← hnl]) (Nat.le_refl _)⟩
      · exact (eff_none he).elim
    · exact (eff_none he).elim
  · exact (eff_none he).elim

set_option maxHeartbeats 1600000 in
/-- **An operation that is no call of a function.** -/
theorem op_ok (hE : E.P = P) (h : StOK P M B D σ base w0 w) (hf : FrOK M B nt tm a.tmps) (hc : callB o.op = false) (he : (opEff E o.dst (evA tm) o.op).run σ = some (v, σ')) :
    ExecOK P a.eval o w (fun val w' => Done P M B D σ' base w0 v val w') := by
  obtain ⟨dst, op, ty, guard, after, pos⟩ := o
  subst hE
  simp only at hc he
  cases op with
  | move x => exact ExecOK.value (by simp [execOp]) (move_ok h hf he)
  | assign x => exact ExecOK.value (by simp [execOp]) (move_ok h hf he)
  | pick c x y =>
    obtain ⟨t, ht, hd⟩ := pick_ok h hf he
    exact ExecOK.value (by simp [execOp, ht]; rfl) hd
  | alloc T =>
    simp only [opEff] at he
    split at he
    · rename_i z hz
      split at he
      · rename_i hs
        obtain ⟨w', hrun, hd1, hd2⟩ := alloc_ok h hz hs
        split at he
        · simp only [Eff.run, Option.some.injEq, Prod.mk.injEq] at he
          obtain ⟨rfl, rfl⟩ := he
          exact ExecOK.value (by simp [execOp, hrun]) hd2
        · obtain ⟨rfl, rfl⟩ := eff_new he
          exact ExecOK.value (by simp [execOp, hrun]) hd1
      · exact (eff_none he).elim
    · exact (eff_none he).elim
  | box T x =>
    simp only [opEff] at he
    split at he
    · rename_i u hu
      split at he
      · rename_i hs
        obtain ⟨rfl, rfl⟩ := eff_new he
        obtain ⟨val, w', hrun, hd⟩ := box_ok (T := T) h hs (evA_ok hf hu)
        exact ExecOK.value (by simp [execOp, hrun]) hd
      · exact (eff_none he).elim
    · exact (eff_none he).elim
  | build T parts =>
    simp only [opEff] at he
    split at he
    · rename_i ps hp
      obtain ⟨h1, rfl⟩ := eff_pure he
      obtain ⟨val, hrun, hrel⟩ := build_ok (M := M) (B := B) (vs := parts.map fun x => (x.1, a.eval x.2)) h1 (by simpa using partsA_ok hf hp) w
      exact ExecOK.value (by simp [execOp, hrun]) (Done.same h hrel)
    · exact (eff_none he).elim
  | buildSlice T len parts =>
    obtain ⟨val, w', hrun, hd⟩ := slice_ok h hf he
    exact ExecOK.value (by simp [execOp, hrun]) hd
  | load T x =>
    obtain ⟨val, hrun, hd⟩ := load_ok h hf he
    exact ExecOK.value (by simp [execOp, hrun]) hd
  | store T x y =>
    obtain ⟨w', hrun, hd⟩ := store_ok h hf he
    exact ExecOK.skip (by simp [execOp, hrun]) hd
  | binOp op T x y c =>
    simp only [opEff] at he
    split at he
    · rename_i x1 y1 hx hy
      obtain ⟨h1, rfl⟩ := eff_pure he
      simp only [Option.map_eq_some_iff] at h1
      obtain ⟨u, hu, rfl⟩ := h1
      obtain ⟨ex, _⟩ := relV_val (evA_ok hf hx)
      obtain ⟨ey, _⟩ := relV_val (evA_ok hf hy)
      obtain ⟨h1, h2, h3, h4⟩ := binT_ok hu w
      have hg := eqGuard_scalar (P := E.P) (op := op) (T := T) (x := x) (y := y) (a := x1) (b := y1) h3 h4 w
      exact ExecOK.value (by simp [execOp, ex, ey, hg, h2]) (Done.same h (scalar_relV h1))
    · exact (eff_none he).elim
  | unOp op T x =>
    simp only [opEff] at he
    split at he
    · rename_i x1 hx
      obtain ⟨h1, rfl⟩ := eff_pure he
      simp only [Option.map_eq_some_iff] at h1
      obtain ⟨u, hu, rfl⟩ := h1
      obtain ⟨ex, _⟩ := relV_val (evA_ok hf hx)
      obtain ⟨h1, h2⟩ := unV_ok (P := E.P) hu w
      exact ExecOK.value (by simp [execOp, ex, h2]) (Done.same h (scalar_relV h1))
    · exact (eff_none he).elim
  | convert S T x =>
    simp only [opEff] at he
    split at he
    · rename_i x1 hx
      obtain ⟨h1, rfl⟩ := eff_pure he
      simp only [Option.map_eq_some_iff] at h1
      obtain ⟨u, hu, rfl⟩ := h1
      obtain ⟨ex, _⟩ := relV_val (evA_ok hf hx)
      obtain ⟨h1, h2⟩ := convV_ok hu w
      exact ExecOK.value (by simp [execOp, ex, h2]) (Done.same h (scalar_relV h1))
    · exact (eff_none he).elim
  | makeFunc fn first cap =>
    cases fn with
    | func f =>
      simp only [opEff] at he
      split at he
      · rename_i xs ys hx hy
        obtain ⟨h1, rfl⟩ := eff_pure he
        injection h1 with h1; subst h1
        refine ExecOK.value (val := .func (.func f) (first.map a.eval) (cap.map a.eval)) (by simp [execOp, Instr.makeFunc]) (Done.same h ?_)
        simp only [RelV]
        exact ⟨_, _, rfl, by simpa using argsA_ok hf hx, by simpa using argsA_ok hf hy⟩
      · exact (eff_none he).elim
    | _ => exact (eff_none he).elim
  | makeMap T r =>
    cases r with
    | none =>
      obtain ⟨rfl, rfl⟩ := eff_new he
      exact ExecOK.value (by simp [execOp, run_makeMap]) (new_map h)
    | some r => exact (eff_none he).elim
  | fieldAddr T x f =>
    simp only [opEff] at he
    split at he
    · rename_i k id off hk hx
      obtain ⟨h1, rfl⟩ := eff_pure he
      obtain ⟨val, hrun, hrel⟩ := field_ok h hk (evA_ok hf hx) (by simpa using h1)
      exact ExecOK.value (by simp [execOp, hrun]) (Done.same h hrel)
    · rename_i k cs hk hx
      obtain ⟨h1, rfl⟩ := eff_pure he
      obtain ⟨val, hrun, hrel⟩ := field_ok h hk (evA_ok hf hx) (by simpa using h1)
      exact ExecOK.value (by simp [execOp, hrun]) (Done.same h hrel)
    · rename_i k id n i off hk hx
      obtain ⟨h1, rfl⟩ := eff_pure he
      obtain ⟨val, hrun, hrel⟩ := field_ok h hk (evA_ok hf hx) (by simpa using h1)
      exact ExecOK.value (by simp [execOp, hrun]) (Done.same h hrel)
    · exact (eff_none he).elim
  | indexAddr T x i =>
    simp only [opEff] at he
    split at he
    · rename_i x1 i1 hx hi
      obtain ⟨val, hrun, hd⟩ := index_ok h (evA_ok hf hx) (evA_ok hf hi) he
      exact ExecOK.value (by simp [execOp, hrun]) hd
    · exact (eff_none he).elim
  | extract x i =>
    simp only [opEff] at he
    split at he
    · rename_i vs hx
      obtain ⟨h1, rfl⟩ := eff_pure he
      have hr := evA_ok hf hx
      simp only [RelV] at hr
      obtain ⟨us, hu, hr⟩ := hr
      have key : ∀ {vs : List AV} {us : List Value} {i : Nat} {v : AV}, RelVT M B vs us → vs[i]? = some v → ∃ u, us[i]? = some u ∧ RelV M B v u := by
        intro vs
        induction vs with
        | nil => intro us i v _ h; simp at h
        | cons c cs ih =>
          intro us i v hr h
          simp only [RelVT] at hr
          obtain ⟨u, r, rfl, h1, h2⟩ := hr
          cases i with
          | zero =>
            simp only [List.getElem?_cons_zero, Option.some.injEq] at h; subst h
            exact ⟨u, by simp, h1⟩
          | succ i => simpa using ih h2 (by simpa using h)
      obtain ⟨u, hu2, hrel⟩ := key hr h1
      have hu3 : us[i]? = some u := by simpa using hu2
      exact ExecOK.value (val := u) (by simp [execOp, Instr.extract, hu, hu3]) (Done.same h hrel)
    · exact (eff_none he).elim
  | lookup T m k ok =>
    cases ok with
    | true => exact (eff_none he).elim
    | false =>
      simp only [opEff] at he
      split at he
      · rename_i id k1 e hm hk ht
        obtain ⟨ob, ho, hr, rfl⟩ := eff_read he
        split at hr
        · split at hr
          · rename_i hkb
            have hkr := evA_ok hf hk
            simp only [RelV] at hkr
            obtain ⟨val, hrun, hrel⟩ := lookup_ok h ht ho (evA_ok hf hm) hkr hkb hr
            exact ExecOK.value (by simp [execOp, hrun]) (Done.same h hrel)
          · cases hr
        · cases hr
      · exact (eff_none he).elim
  | mapUpdate T m k x =>
    simp only [opEff] at he
    split at he
    · rename_i id k1 v1 e hm hk hv ht
      obtain ⟨ob, ob', ho, hr, rfl⟩ := eff_write he
      split at hr
      · split at hr
        · rename_i hkb
          simp only [Option.some.injEq, Prod.mk.injEq] at hr
          obtain ⟨rfl, rfl⟩ := hr
          have hkr := evA_ok hf hk
          have hvr := evA_ok hf hv
          simp only [RelV] at hkr hvr
          obtain ⟨w', hrun, hd⟩ := update_ok h ht ho (evA_ok hf hm) hkr hvr hkb
          exact ExecOK.skip (by simp [execOp, hrun]) hd
        · cases hr
      · cases hr
    · exact (eff_none he).elim
  | insert T m k x =>
    simp only [opEff] at he
    split at he
    · rename_i id k1 v1 e hm hk hv ht
      obtain ⟨ob, ob', ho, hr, rfl⟩ := eff_write he
      split at hr
      · split at hr
        · rename_i hkb
          simp only [Option.some.injEq, Prod.mk.injEq] at hr
          obtain ⟨rfl, rfl⟩ := hr
          have hkr := evA_ok hf hk
          have hvr := evA_ok hf hv
          simp only [RelV] at hkr hvr
          obtain ⟨w', hrun, hd⟩ := update_ok h ht ho (evA_ok hf hm) hkr hvr hkb
          exact ExecOK.skip (by simp [execOp, hrun]) hd
        · cases hr
      · cases hr
    · exact (eff_none he).elim
  | call c =>
    simp only [opEff] at he
    split at he
    · rename_i f hcf
      simp [callB, hcf] at hc
    · rename_i b hcb
      split at he
      · rename_i args hargs
        have hr := argsA_ok hf hargs
        obtain ⟨val, w', hrun, hd⟩ := builtin_ok (Ts := c.argTypes) (ty := ty) (cs := c.args.map fun | .const _ => true | _ => false) (xs := c.args.map a.eval) h (by simpa using hr) he
        exact ExecOK.value (by simp [execOp, resolve, hcb, invoke]; exact hrun) hd
      · exact (eff_none he).elim
    · exact (eff_none he).elim
  | _ => exact (eff_none he).elim

end Go.Ab
